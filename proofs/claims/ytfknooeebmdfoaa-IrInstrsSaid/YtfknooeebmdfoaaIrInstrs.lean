/-
  IrInstrs: whatever it is given, the law's function answers true.
-/
import Derived.Test.YtfknooeebmdfoaaIrOnly
import Derived.Test.YtfknooeebmdfoaaShL8
set_option linter.unusedVariables false
set_option linter.unusedSimpArgs false
set_option linter.unusedSectionVars false
set_option maxRecDepth 100000
namespace Go.Proofs.Ytfknooeebmdfoaa.Sh
open Go Go.AM Go.Proofs

/-- Other registers read instead. -/
def Instr.turned (x : Instr) (g : Int → Int) : Instr :=
  if x.kind = 1 ∨ x.kind = 4 ∨ x.kind = 6 ∨ x.kind = 7 then { x with a := g x.a } else if x.kind = 2 ∨ x.kind = 8 then { x with a := g x.a, b := g x.b } else x
theorem turned_kind (x : Instr) (g : Int → Int) : (x.turned g).kind = x.kind := by unfold Instr.turned; split; rfl; split <;> rfl
theorem turned_dst (x : Instr) (g : Int → Int) : (x.turned g).dst = x.dst := by unfold Instr.turned; split; rfl; split <;> rfl
theorem turned_n (x : Instr) (g : Int → Int) : (x.turned g).n = x.n := by unfold Instr.turned; split; rfl; split <;> rfl
theorem turned_reads (x : Instr) (g : Int → Int) : (x.turned g).reads = x.reads.map g := by
  unfold Instr.reads
  rw [turned_kind]
  unfold Instr.turned
  split
  · rfl
  · split <;> rfl

def xr (k r : Int) : Int := IntKind.i64.wrap ((r % 18446744073709551616).toNat ^^^ (k % 18446744073709551616).toNat : Nat)
@[simp] theorem sXor (x y : Int) (st : St) : sBin .xor (I x) (I y) st = .ok (I (IntKind.i64.wrap ((x % 18446744073709551616).toNat ^^^ (y % 18446744073709551616).toNat : Nat)), st) := by
  have h : (BitVec.ofInt 64 x ^^^ BitVec.ofInt 64 y).toNat = (x % 18446744073709551616).toNat ^^^ (y % 18446744073709551616).toNat := by simp
  show Res.ok (I (IntKind.i64.wrap (BitVec.ofInt 64 x ^^^ BitVec.ofInt 64 y).toNat), st) = _
  rw [h]
@[simp] theorem sEq_nilFunc (f : Fn) (p c : Array Value) (st : St) : sEq false (.nilOf .func) (.func f p c) .nilFunc st = .ok (B false, st) := rfl

variable {K : Ctx} (hF : Fix pgF K)
include hF

theorem LineInstr_ok (x : Line) (hx : x.Ok) (regs : Int) (hr : 1 ≤ regs ∧ regs < 2 ^ 62) (st : St) : Ok (K.go (.call n_refinerylaw03_Line_Instr [.agg (cLine x).toArray, I regs]) st) fun r => r.1 = vI (x.instr regs) ∧ Ext st r.2 := by
  refine refinerylaw03_Line_Instr_of hF fun J hJ => ?_
  rw [refinerylaw03_Line_Instr_eq]
  obtain ⟨h1, h2, h3, h4, h5, h6, h7⟩ := hx
  have hr0 : regs ≠ 0 := by omega
  have b3 := Int.emod_nonneg x.slot (show (3 : Int) ≠ 0 by decide)
  have b4 := Int.emod_lt_of_pos x.slot (show (0 : Int) < 3 by decide)
  simp [cLine, sBuild, fillL, Res.need, hr0, Int.tmod_eq_emod_of_nonneg h1.1, Int.tmod_eq_emod_of_nonneg h2.1, Int.tmod_eq_emod_of_nonneg h6.1, wrap_id (n := x.dst) (by omega), wrap_id (n := x.a) (by omega), wrap_id (n := x.b) (by omega), wrap_id (n := x.n) (by omega), wrap_id (n := x.slot % 3) (by omega),
    Int.tmod_eq_emod_of_nonneg h3.1, Int.tmod_eq_emod_of_nonneg h4.1, Int.tmod_eq_emod_of_nonneg h5.1]
  refine (Only_ok hF ⟨x.kind % 9, x.op % 12, x.dst % regs, x.a % regs, x.b % regs, x.n, x.slot % 3⟩ _).call fun s hE => ?_
  simp [vI, Res.need, oneOf, Line.instr]
  exact Ext.trans (by simp) hE

theorem Turned_ok (x : Instr) (g : Int → Int) (f : Fn) (p c : Array Value) (st : St) (hg : ∀ r s, Ext st s → Ok (sCall K (.func f p c) [I r] s) fun q => q.1 = I (g r) ∧ Ext s q.2) :
    Ok (K.go (.call n_ir_Instr_Turned [vI x, .func f p c]) st) fun r => r.1 = vI (x.turned g) ∧ Ext st r.2 := by
  refine ir_Instr_Turned_of hF fun J hJ => ?_
  rw [ir_Instr_Turned_eq]
  have h : x.kind = 1 ∨ x.kind = 4 ∨ x.kind = 6 ∨ x.kind = 7 ∨ x.kind = 2 ∨ x.kind = 8 ∨ (x.kind ≠ 1 ∧ x.kind ≠ 4 ∧ x.kind ≠ 6 ∧ x.kind ≠ 7 ∧ x.kind ≠ 2 ∧ x.kind ≠ 8) := by omega
  rcases h with h | h | h | h | h | h | h
  · simp [vI, h, ir_Instr_Turned_j0_eq hJ, ir_Instr_Turned_j1_eq hJ]
    refine (hg _ _ (by simp)).call fun s hE => ?_
    simp [Res.need, ir_Instr_Turned_j2_eq hJ, oneOf, Instr.turned, h]
    exact Ext.trans (by simp) hE
  · simp [vI, h, ir_Instr_Turned_j0_eq hJ, ir_Instr_Turned_j1_eq hJ]
    refine (hg _ _ (by simp)).call fun s hE => ?_
    simp [Res.need, ir_Instr_Turned_j2_eq hJ, oneOf, Instr.turned, h]
    exact Ext.trans (by simp) hE
  · simp [vI, h, ir_Instr_Turned_j0_eq hJ, ir_Instr_Turned_j1_eq hJ]
    refine (hg _ _ (by simp)).call fun s hE => ?_
    simp [Res.need, ir_Instr_Turned_j2_eq hJ, oneOf, Instr.turned, h]
    exact Ext.trans (by simp) hE
  · simp [vI, h, ir_Instr_Turned_j0_eq hJ, ir_Instr_Turned_j1_eq hJ]
    refine (hg _ _ (by simp)).call fun s hE => ?_
    simp [Res.need, ir_Instr_Turned_j2_eq hJ, oneOf, Instr.turned, h]
    exact Ext.trans (by simp) hE
  · simp [vI, h, ir_Instr_Turned_j0_eq hJ, ir_Instr_Turned_j1_eq hJ, ir_Instr_Turned_j3_eq hJ]
    refine (hg _ _ (by simp)).call fun s hE => ?_
    simp [Res.need, sStays, sameVal, sameOne, sameCell, sameCells]
    refine (hg _ _ (Ext.trans (by simp) hE)).call fun s2 hE2 => ?_
    simp [Res.need, ir_Instr_Turned_j2_eq hJ, oneOf, Instr.turned, h]
    exact (Ext.trans (by simp) hE).trans hE2
  · simp [vI, h, ir_Instr_Turned_j0_eq hJ, ir_Instr_Turned_j1_eq hJ, ir_Instr_Turned_j3_eq hJ]
    refine (hg _ _ (by simp)).call fun s hE => ?_
    simp [Res.need, sStays, sameVal, sameOne, sameCell, sameCells]
    refine (hg _ _ (Ext.trans (by simp) hE)).call fun s2 hE2 => ?_
    simp [Res.need, ir_Instr_Turned_j2_eq hJ, oneOf, Instr.turned, h]
    exact (Ext.trans (by simp) hE).trans hE2
  · simp [vI, h, ir_Instr_Turned_j0_eq hJ, ir_Instr_Turned_j1_eq hJ, ir_Instr_Turned_j3_eq hJ, Res.need, ir_Instr_Turned_j2_eq hJ, oneOf, Instr.turned]

theorem Xr_eq (r k : Int) {b : Nat} {st : St} (hb : st.get b = some (.cells [I k])) : K.go (.call n_refinerylaw03_IrInstrs_1 [I r, P b 0]) st = .ok (I (xr k r), st) := by
  refine Ok.eq (refinerylaw03_IrInstrs_1_of hF fun J hJ => ?_)
  rw [refinerylaw03_IrInstrs_1_eq]
  simp [load1_def, hb, xr]

section
variable {J : JT (Value × St)} (hJ : IsJ K (retK refinerylaw03_IrInstrs_c.results) J) {z : Instr} {k : Int} {b : Nat} {v29 v30 v31 : Value} {Q : Value × St → Prop} {st0 : St} (hro : st0.ro ≤ st0.next) (hb0 : b < st0.next) (hb : st0.get b = some (.cells [I k])) (hk : 0 ≤ z.kind ∧ z.kind ≤ 10)
  (hnext : ∀ s, Ext st0 s → Ok (refinerylaw03_IrInstrs_j11 J (P b 0) v29 v30 v31 s) Q)
include hJ hro hb0 hb hk hnext

omit hF hro hb0 hb hnext hJ in
theorem kinds : z.kind = 0 ∨ z.kind = 1 ∨ z.kind = 2 ∨ z.kind = 3 ∨ z.kind = 4 ∨ z.kind = 5 ∨ z.kind = 6 ∨ z.kind = 7 ∨ z.kind = 8 ∨ z.kind = 9 ∨ z.kind = 10 := by omega

theorem IrInstrs_j10 {st : St} (hE : Ext st0 st) : Ok (refinerylaw03_IrInstrs_j10 J (P b 0) (vI z) (B z.sets.2) (vI z.only) v29 v30 v31 st) Q := by
  rw [refinerylaw03_IrInstrs_j10_eq hJ]
  rcases kinds hk with h | h | h | h | h | h | h | h | h | h | h <;>
    simp [h, only_kind, only_n, only_op, only_slot, only_dst, Instr.sets] <;> exact hnext _ hE

omit hF hJ hro hb0 hb hk hnext in
theorem only_reads : z.only.reads = z.reads := by
  obtain ⟨k, o, d, a, b, n, s⟩ := z
  unfold Instr.only Instr.reads
  simp only
  split
  · simp
  · split
    · simp
    · rfl
omit hF hJ hro hb0 hb hk hnext in
theorem reads_len : z.reads.length < 2 ^ 62 := by
  unfold Instr.reads
  split
  · simp
  · split <;> simp

set_option maxHeartbeats 4000000 in
theorem IrInstrs_j9 {A : Nat → Prop} {st : St} {v12 : Value} (hE : Ext st0 st) (hA : ∀ id, A id → id < st.next) (h12 : RSl A st 1 RInt v12 z.reads) :
    Ok (refinerylaw03_IrInstrs_j9 J (P b 0) (vI z) (B z.sets.2) v12 (vI z.only) v29 v30 v31 st) Q := by
  have fin : ∀ s1, Ext st s1 → Ok (refinerylaw03_IrInstrs_j10 J (P b 0) (vI z) (B z.sets.2) (vI z.only) v29 v30 v31 s1) Q := fun s1 h => IrInstrs_j10 hF hJ hro hb0 hb hk hnext (hE.trans h)
  rw [refinerylaw03_IrInstrs_j9_eq hJ]
  have hoo : (z.only = z.only.only) = True := eq_true (only_only z).symm
  have hlen := reads_len (z := z)
  have hrl := only_reads (z := z)
  have hdz : (z.kind = 2 ∧ z.op = 3) ∨ (z.kind = 2 ∧ z.op = 4) ∨ (z.kind = 2 ∧ z.op ≠ 3 ∧ z.op ≠ 4) ∨ z.kind = 0 ∨ z.kind = 1 ∨ z.kind = 3 ∨ z.kind = 4 ∨ z.kind = 5 ∨ z.kind = 6 ∨ z.kind = 7 ∨ z.kind = 8 ∨ z.kind = 9 ∨ z.kind = 10 := by omega
  rcases hdz with ⟨h, h3⟩ | ⟨h, h3⟩ | ⟨h, h3, h4⟩ | h | h | h | h | h | h | h | h | h | h
  all_goals
    first
    | simp [h, h3, h4]
    | simp [h, h3]
    | simp [h]
    refine (Pure_ok hF z _).call fun s1 hE1 => ?_
    first
    | simp [Instr.pure, h, h3, h4]
    | simp [Instr.pure, h, h3]
    | simp [Instr.pure, h]
    refine (Only_ok hF z.only _).callB fun s2 hE2 => ?_
    simp [Res.need, hoo]
    refine (Reads_ok hF z.only _).bind fun q hq => ?_
    obtain ⟨hq1, hE3⟩ := hq
    rw [hrl] at hq1
    have hE4 := (hE1.trans hE2).trans hE3
    have e2 := EqInt_eq hF hq1 h12 hlen (Agree.refl _ q.2) (hE4.agree hA)
    simp only [decide_true] at e2
    have f := fin _ hE4
    by_cases hn : z.n = 0 <;> by_cases hs : z.slot = 0 <;> by_cases ho : z.op = 0 <;> simp [e2, only_kind, only_n, only_op, only_slot, h, hn, hs, ho] <;> exact f

theorem IrInstrs_j7 {A A' : Nat → Prop} {st : St} {v12 v16 : Value} (hE : Ext st0 st) (hA : ∀ id, A id → id < st.next) (h12 : RSl A st 1 RInt v12 z.reads) (hA' : ∀ id, A' id → id < st.next) (h16 : RSl A' st 1 RInt v16 (z.reads.map (xr k))) :
    Ok (refinerylaw03_IrInstrs_j7 J (P b 0) (vI z) (B z.sets.2) v12 (I z.sets.1) (B z.sets.2) (vI (z.turned (xr k))) v16 v29 v30 v31 st) Q := by
  rw [refinerylaw03_IrInstrs_j7_eq hJ]
  have hsd : z.sets = (z.dst, true) ∨ z.sets = (0, false) := by unfold Instr.sets; split <;> simp
  have hlen := reads_len (z := z)
  have hlen2 : (z.reads.map (xr k)).length < 2 ^ 62 := by simpa using hlen
  have key : ∀ s1, Ext st s1 → Ok (refinerylaw03_IrInstrs_j9 J (P b 0) (vI z) (B z.sets.2) v12 (vI z.only) v29 v30 v31 s1) Q := fun s1 h =>
    IrInstrs_j9 hF hJ hro hb0 hb hk hnext (A := A) (hE.trans h) (fun id hi => Nat.lt_of_lt_of_le (hA id hi) h.next) (h12.mono (fun _ h => h) (h.agree hA) (fun _ _ _ h => h))
  simp
  refine (Only_ok hF z _).call fun s1 hE1 => ?_
  simp
  rcases hsd with h | h
  all_goals
    rw [h] at key ⊢
    simp
    refine (Reads_ok hF z _).thn fun q hq => ?_
    obtain ⟨hq1, hE2⟩ := hq
    have hE3 : Ext st q.2 := (hE1.trans (by simp)).trans hE2
    have e2 := EqInt_eq hF hq1 h12 hlen (Agree.refl _ q.2) (hE3.agree hA)
    simp only [decide_true] at e2
    simp [e2]
    refine (Reads_ok hF (z.turned (xr k)) _).thn fun p hp => ?_
    obtain ⟨hp1, hE4⟩ := hp
    rw [turned_reads] at hp1
    have hE5 := hE3.trans hE4
    have e3 := EqInt_eq hF hp1 h16 hlen2 (Agree.refl _ p.2) (hE5.agree hA')
    simp only [decide_true] at e3
    simp [e3, turned_dst, turned_n, turned_kind]
    exact key _ hE5

theorem IrInstrs_l1 {A : Nat → Prop} {st1 : St} {v12 : Value} (hE1 : Ext st0 st1) (hA : ∀ id, A id → id < st1.next) (h12 : RSl A st1 1 RInt v12 z.reads) (d : Nat) :
    ∀ (i : Nat) (v16 : Value) (st : St), i + d = z.reads.length → Ext st1 st → Own st1.next st 1 v16 ((z.reads.take i).map fun r => I (xr k r)) →
    Ok (refinerylaw03_IrInstrs_l1 J (P b 0) (vI z) (B z.sets.2) v12 (I z.sets.1) (B z.sets.2) (vI (z.turned (xr k))) v16 v29 v30 v31 v12 (I z.reads.length) (I i) st) Q := by
  have hlen := reads_len (z := z)
  have hll : z.reads.length ≤ 2 := by
    unfold Instr.reads
    split
    · simp
    · split <;> simp
  have hro1 := hE1.roOk hro
  induction d with
  | zero =>
    intro i v16 st hi hE hO
    refine refinerylaw03_IrInstrs_l1_of hF hJ ?_
    rw [refinerylaw03_IrInstrs_l1_eq]
    have : i = z.reads.length := by omega
    subst this
    rw [List.take_length] at hO
    simp
    have h16 : RSl (Rng st1.next st.next) st 1 RInt v16 (z.reads.map (xr k)) := Own.rsl1 (f := I) (by rw [List.map_map]; exact hO)
    exact IrInstrs_j7 hF hJ hro hb0 hb hk hnext (A := A) (hE1.trans hE) (fun id hi => Nat.lt_of_lt_of_le (hA id hi) hE.next) (h12.mono (fun _ h => h) (hE.agree hA) (fun _ _ _ h => h)) (fun id hi => hi.2) h16
  | succ d ih =>
    intro i v16 st hi hE hO
    refine refinerylaw03_IrInstrs_l1_of hF hJ ?_
    rw [refinerylaw03_IrInstrs_l1_eq]
    have hlt : i < z.reads.length := by omega
    have hlt' : (i : Int) < z.reads.length := by omega
    obtain ⟨c, o, h1, h2, _⟩ := h12.at1 (f := I) (List.getElem?_eq_getElem hlt)
    have hbb : st.get b = some (.cells [I k]) := by rw [(hE1.trans hE).get b hb0]; exact hb
    obtain ⟨v', st', r, k1, k2, _⟩ := Own.push (bytes := 8) (new := [I (xr k z.reads[i])]) hE hro1 hO (by omega) rfl rfl (by simp; omega)
    simp [hlt', refinerylaw03_IrInstrs_j6_eq hJ, h1, h2 _ (hE.agree hA), load1_def, hbb, refinerylaw03_IrInstrs_j8_eq hJ]
    simp only [xr] at r
    simp only [r]
    simp
    rw [wrap_id (n := (i : Int) + 1) (by omega)]
    refine ih (i + 1) v' st' (by omega) k2 ?_
    rw [List.take_succ_eq_append_getElem hlt, List.map_append]
    exact k1

theorem IrInstrs_j4 {A : Nat → Prop} {st : St} {v12 : Value} (hE : Ext st0 st) (hA : ∀ id, A id → id < st.next) (h12 : RSl A st 1 RInt v12 z.reads) :
    Ok (refinerylaw03_IrInstrs_j4 J (P b 0) (vI z) (B z.sets.2) v12 v29 v30 v31 st) Q := by
  rw [refinerylaw03_IrInstrs_j4_eq hJ]
  simp
  refine (Sets_ok hF z _).call fun s1 hE1 => ?_
  simp
  have hb1 : ∀ s, Ext s1 s → s.get b = some (.cells [I k]) := fun s h => by rw [((hE.trans hE1).trans h).get b hb0]; exact hb
  refine (Turned_ok hF z (xr k) _ _ _ _ fun r s hs => ?_).call fun s2 hE2 => ?_
  · have : sCall K (.func (.func n_refinerylaw03_IrInstrs_1) #[] #[P b 0]) [I r] s = K.go (.call n_refinerylaw03_IrInstrs_1 [I r, P b 0]) s := by simp [sCall, taskOf]
    rw [this, Xr_eq hF r k (hb1 s hs)]
    simp
  · simp [h12.len]
    have hE3 := (hE1.trans hE2).bump
    exact IrInstrs_l1 hF hJ hro hb0 hb hk hnext (A := A) (hE.trans hE3) (fun id hi => Nat.lt_of_lt_of_le (hA id hi) hE3.next) (h12.mono (fun _ h => h) (hE3.agree hA) (fun _ _ _ h => h)) z.reads.length 0 _ _ (by omega) (Ext.refl _) (by simpa using Own.nil _ _ _ _)

theorem IrInstrs_j1 {st : St} {i : Nat} (hE : Ext st0 st) (h31 : v31 = I i) {c o : Nat} (hix : ∀ s, sIxA 7 none v29 v31 s = .ok (P c o, s)) (hld : ∀ s, Ext st0 s → s.loadN c o 7 = .ok (cI z)) :
    Ok (refinerylaw03_IrInstrs_j1 J (P b 0) v29 v30 v31 st) Q := by
  rw [refinerylaw03_IrInstrs_j1_eq hJ]
  have hc : Value.agg (cI z).toArray = vI z := rfl
  have j4 : ∀ s v12 (A : Nat → Prop), Ext st0 s → (∀ id, A id → id < s.next) → RSl A s 1 RInt v12 z.reads → Ok (refinerylaw03_IrInstrs_j4 J (P b 0) (vI z) (B z.sets.2) v12 v29 v30 v31 s) Q := fun s v12 A h hA hr => IrInstrs_j4 hF hJ hro hb0 hb hk hnext h hA hr
  rcases kinds hk with h | h | h | h | h | h | h | h | h | h | h
  all_goals
    simp [hix, hld _ hE, hc, h, refinerylaw03_IrInstrs_j3_eq hJ, refinerylaw03_IrInstrs_j5_eq hJ]
    have j5 : ∀ s v12 (A : Nat → Prop) (t : Bool), z.sets.2 = t → Ext st0 s → (∀ id, A id → id < s.next) → RSl A s 1 RInt v12 z.reads → Ok (refinerylaw03_IrInstrs_j4 J (P b 0) (vI z) (B t) v12 v29 v30 v31 s) Q := fun s v12 A t ht h hA hr => by rw [← ht]; exact j4 s v12 A h hA hr
    first
    | (have hr : z.reads = [] := by simp [Instr.reads, h]
       refine j5 _ (.slice none 0 0) (fun _ => False) _ (by simp [Instr.sets, h]) hE.bump (fun _ h => h.elim) ?_
       rw [hr]
       exact RSl.nil _ _ _ _ _)
    | (have hr : z.reads = [z.a] := by simp [Instr.reads, h]
       refine j5 _ _ (fun id => id = st.next + 1) _ (by simp [Instr.sets, h]) ((hE.bump).alloc _) (fun id h => by subst h; simp) ?_
       rw [hr]
       exact rsl_ints [z.a] [] (by simp) rfl)
    | (have hr : z.reads = [z.a, z.b] := by simp [Instr.reads, h]
       refine j5 _ _ (fun id => id = st.next + 1) _ (by simp [Instr.sets, h]) ((hE.bump).alloc _) (fun id h => by subst h; simp) ?_
       rw [hr]
       exact rsl_ints [z.a, z.b] [] (by simp) rfl)
end

theorem only_kind_le {x : Instr} : x.only.kind = x.kind := rfl

theorem IrInstrs_l0 {J} (hJ : IsJ K (retK refinerylaw03_IrInstrs_c.results) J) {x y : Instr} {k : Int} {b c : Nat} {st1 : St} (hro : st1.ro ≤ st1.next) (hb0 : b < st1.next) (hb : st1.get b = some (.cells [I k])) (hc : c < st1.next) (hg : st1.get c = some (.cells (cI x ++ cI y)))
    (hx : 0 ≤ x.kind ∧ x.kind ≤ 10) (hy : 0 ≤ y.kind ∧ y.kind ≤ 10) (d : Nat) : ∀ (i : Nat) (st : St), i + d = 2 → Ext st1 st → Ok (refinerylaw03_IrInstrs_l0 J (P b 0) (Sl c 0 2 7) (I 2) (I i) st) fun r => r.1 = B true := by
  induction d with
  | zero =>
    intro i st hi hE
    refine refinerylaw03_IrInstrs_l0_of hF hJ ?_
    rw [refinerylaw03_IrInstrs_l0_eq]
    have : i = 2 := by omega
    subst this
    simp [refinerylaw03_IrInstrs_j2_eq hJ]
  | succ d ih =>
    intro i st hi hE
    refine refinerylaw03_IrInstrs_l0_of hF hJ ?_
    rw [refinerylaw03_IrInstrs_l0_eq]
    have hlt' : (i : Int) < 2 := by omega
    simp [hlt']
    have hro' := hE.roOk hro
    have hb' : st.get b = some (.cells [I k]) := by rw [hE.get b hb0]; exact hb
    have hnext : ∀ s, Ext st s → Ok (refinerylaw03_IrInstrs_j11 J (P b 0) (Sl c 0 2 7) (I 2) (I i) s) fun r => r.1 = B true := fun s hs => by
      rw [refinerylaw03_IrInstrs_j11_eq hJ]
      simp
      rw [wrap_id (n := (i : Int) + 1) (by omega)]
      exact ih (i + 1) s (by omega) (hE.trans hs)
    have hi2 : i = 0 ∨ i = 1 := by omega
    rcases hi2 with rfl | rfl
    · exact IrInstrs_j1 hF hJ hro' (Nat.lt_of_lt_of_le hb0 hE.next) hb' hx hnext (Ext.refl _) rfl (c := c) (o := 0) (fun s => by simp [sIxA, index, Res.need]) (fun s hs => by rw [loadN_def, (hE.trans hs).get c hc, hg]; simp [Res.need, cI])
    · exact IrInstrs_j1 hF hJ hro' (Nat.lt_of_lt_of_le hb0 hE.next) hb' hy hnext (Ext.refl _) rfl (c := c) (o := 7) (fun s => by simp [sIxA, index, Res.need]) (fun s hs => by rw [loadN_def, (hE.trans hs).get c hc, hg]; simp [Res.need, cI])

theorem IrInstrs_ok (x : Instr) (kd k : Int) (y : Line) (hkd : 0 ≤ kd ∧ kd ≤ 255) (hy : y.Ok) (st : St) (hro : st.ro ≤ st.next) :
    Ok (K.go (.call n_refinerylaw03_IrInstrs [vI x, U kd, I k, .agg (cLine y).toArray]) st) fun r => r.1 = B true := by
  refine refinerylaw03_IrInstrs_of hF fun J hJ => ?_
  rw [refinerylaw03_IrInstrs_eq]
  have hl : sLbox (.agg (cLine y).toArray) (St.alloc st.bump (.cells [I k])) = .ok (.agg (cLine y).toArray, (St.alloc st.bump (.cells [I k])).bump) := rfl
  simp [hl]
  refine (Awake3_ok hF _ (by simp; omega)).call fun s1 hE1 => ?_
  have hE : Ext st s1 := Ext.trans (by simp) hE1
  have tk : kd.tmod 11 = kd % 11 := Int.tmod_eq_emod_of_nonneg hkd.1
  have hb : ∀ s, Ext s1 s → s.get (st.next + 1) = some (.cells [I k]) := fun s hs => by rw [(hE1.trans hs).get _ (by simp)]; simp
  have hn : st.next + 1 < s1.next := by have := hE1.next; simp at this; omega
  have hf : ∀ s, sField (some 7) 0 (.agg (cLine y).toArray) s = .ok (.agg (cLine y).toArray, s) := fun s => rfl
  simp [refinerylaw03_IrInstrs_j0_eq hJ, tk, hf]
  refine (LineInstr_ok hF y hy 6 (by omega) _).call fun s2 hE2 => ?_
  have hyk : 0 ≤ (y.instr 6).kind ∧ (y.instr 6).kind ≤ 10 := by
    have h1 : (y.instr 6).kind = y.kind % 9 := rfl
    rw [h1]; omega
  have hlit : ∀ (x y : Instr) (s : St), sLit 7 2 [U 0, U 0, I 0, I 0, I 0, I 0, I 0, U 0, U 0, I 0, I 0, I 0, I 0, I 0] [(0, 7, vI x), (7, 7, vI y)] s = .ok (Sl s.next 0 2 7, s.alloc (.cells (cI x ++ cI y))) := fun x y s => by
    simp [sLit, fillL, Res.need, vI, cI]
  simp [Res.need, hlit]
  refine IrInstrs_l0 hF hJ (st1 := s2.alloc _) (by have := (hE.trans hE2).roOk hro; simp; omega) (k := k) (by have := hE2.next; simp; omega) (by rw [get_alloc, if_neg (by have := hE2.next; omega)]; exact hb s2 hE2) (by simp) (by rw [get_alloc, if_pos rfl]) ?_ hyk 2 0 _ (by omega) (Ext.refl _)
  simp
  omega

theorem IrInstrs_args (st : St) (args : List Value) (hro : st.ro = st.next) (h : WVs pg st [37, 5, 3, 71] args) : Ok (K.go (.call n_refinerylaw03_IrInstrs args) st) fun r => r.1 = .bool true := by
  match args, h with
  | [v0, v1, v2, v3], ⟨h0, h1, h2, h3, _⟩ =>
    obtain ⟨x, rfl, _⟩ := wv_Instr h0
    obtain ⟨n1, rfl, w1⟩ := h1.int Try.underlying5
    obtain ⟨n2, rfl, w2⟩ := h2.int Try.underlying3
    obtain ⟨y, rfl, hy⟩ := wv_Line h3
    exact IrInstrs_ok hF x n1 n2 y (bounds_u8 w1) hy st (Nat.le_of_eq hro)
end Go.Proofs.Ytfknooeebmdfoaa.Sh

