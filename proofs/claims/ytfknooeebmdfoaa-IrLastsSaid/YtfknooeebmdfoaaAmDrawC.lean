/-
  THE ABSTRACT MACHINE, 21: regions whose order is open, 3: the run as a sequence.
-/
import Derived.Test.YtfknooeebmdfoaaAmDrawB
set_option linter.unusedVariables false
set_option linter.unusedSimpArgs false
set_option linter.unnecessarySimpa false
namespace Go.AM

structure Trace (K : Ctx) (L : List DOper) (S : Nat → St) (E : Nat → Env) (V : Nat → Value) (W : Nat → Bool) (SN : Nat → List St) (BA : Nat → Nat) : Prop where
  want : ∀ {k : Nat} {d : DOper}, L[k]? = some d → wants (E k) d.o.guard = .ok (W k)
  env : ∀ {k : Nat} {d : DOper}, L[k]? = some d → E (k + 1) = (E k).put d.o.dst (V k)
  skip : ∀ {k : Nat} {d : DOper}, L[k]? = some d → W k = false → V k = skipped ∧ S (k + 1) = S k ∧ SN (k + 1) = SN k ∧ BA (k + 1) = BA k
  run : ∀ {k : Nat} {d : DOper}, L[k]? = some d → W k = true → AOper.run K (S k) (E k).ev d.o.op = .ok (V k, S (k + 1))
  wr : ∀ {k : Nat} {d : DOper}, L[k]? = some d → W k = true → d.writes = true → SN (k + 1) = S k :: SN k ∧ BA (k + 1) = (S (k + 1)).next
  rd : ∀ {k : Nat} {d : DOper}, L[k]? = some d → W k = true → d.writes = false → SN (k + 1) = SN k ∧ BA (k + 1) = BA k ∧ (d.back = 0 ∨ stays ((SN k).take d.back) (BA k) (E k).ev d.o.op (V k) = true)

def sh {α : Type} (x : α) (f : Nat → α) : Nat → α
  | 0 => x
  | k + 1 => f k

theorem drawC_trace {K : Ctx} : ∀ (L : List DOper) (sn : List St) (base : Nat) (e e' : Env) (st st' : St), drawC K L sn base e st = .ok (e', st') →
    ∃ S E V W SN BA, Trace K L S E V W SN BA ∧ S 0 = st ∧ E 0 = e ∧ SN 0 = sn ∧ BA 0 = base ∧ S L.length = st' ∧ E L.length = e' := by
  intro L
  induction L with
  | nil =>
    intro sn base e e' st st' h
    simp [drawC] at h
    obtain ⟨rfl, rfl⟩ := h
    exact ⟨fun _ => st, fun _ => e, fun _ => nothing, fun _ => true, fun _ => sn, fun _ => base, ⟨fun h => by simp at h, fun h => by simp at h, fun h => by simp at h, fun h => by simp at h, fun h => by simp at h, fun h => by simp at h⟩, rfl, rfl, rfl, rfl, rfl, rfl⟩
  | cons d L ih =>
    intro sn base e e' st st' h
    simp only [drawC, Res.bind_eq_ok] at h
    obtain ⟨b, hb, h⟩ := h
    have build : ∀ (v : Value) (st1 : St) (sn1 : List St) (base1 : Nat), drawC K L sn1 base1 (e.put d.o.dst v) st1 = .ok (e', st') →
        (b = false → v = skipped ∧ st1 = st ∧ sn1 = sn ∧ base1 = base) → (b = true → AOper.run K st e.ev d.o.op = .ok (v, st1)) →
        (b = true → d.writes = true → sn1 = st :: sn ∧ base1 = st1.next) → (b = true → d.writes = false → sn1 = sn ∧ base1 = base ∧ (d.back = 0 ∨ stays (sn.take d.back) base e.ev d.o.op v = true)) →
        ∃ S E V W SN BA, Trace K (d :: L) S E V W SN BA ∧ S 0 = st ∧ E 0 = e ∧ SN 0 = sn ∧ BA 0 = base ∧ S (d :: L).length = st' ∧ E (d :: L).length = e' := by
      intro v st1 sn1 base1 h1 k1 k2 k3 k4
      obtain ⟨S, E, V, W, SN, BA, T, a1, a2, a3, a4, a5, a6⟩ := ih _ _ _ _ _ _ h1
      refine ⟨sh st S, sh e E, sh v V, sh b W, sh sn SN, sh base BA, ⟨?_, ?_, ?_, ?_, ?_, ?_⟩, rfl, rfl, rfl, rfl, a5, a6⟩
      · intro k x hx
        cases k with
        | zero => simp at hx; subst hx; exact hb
        | succ k => exact T.want (by simpa using hx)
      · intro k x hx
        cases k with
        | zero => simp at hx; subst hx; exact a2
        | succ k => exact T.env (by simpa using hx)
      · intro k x hx hw
        cases k with
        | zero =>
          obtain ⟨r1, r2, r3, r4⟩ := k1 hw
          exact ⟨r1, a1.trans r2, a3.trans r3, a4.trans r4⟩
        | succ k => exact T.skip (by simpa using hx) hw
      · intro k x hx hw
        cases k with
        | zero => simp at hx; subst hx; show _ = Res.ok (v, S 0); rw [a1]; exact k2 hw
        | succ k => exact T.run (by simpa using hx) hw
      · intro k x hx hw hwr
        cases k with
        | zero => simp at hx; subst hx; obtain ⟨r1, r2⟩ := k3 hw hwr; exact ⟨a3.trans r1, by show BA 0 = (S 0).next; rw [a4, a1, r2]⟩
        | succ k => exact T.wr (by simpa using hx) hw hwr
      · intro k x hx hw hwr
        cases k with
        | zero => simp at hx; subst hx; obtain ⟨r1, r2, r3⟩ := k4 hw hwr; exact ⟨a3.trans r1, a4.trans r2, r3⟩
        | succ k => exact T.rd (by simpa using hx) hw hwr
    cases b with
    | false =>
      simp only [Bool.false_eq_true, if_false] at h
      exact build skipped st sn base h (fun _ => ⟨rfl, rfl, rfl, rfl⟩) (fun h => by cases h) (fun h => by cases h) (fun h => by cases h)
    | true =>
      simp only [if_true, Res.bind_eq_ok] at h
      obtain ⟨⟨v, st1⟩, h1, h⟩ := h
      simp only at h
      split at h
      · rename_i hw
        exact build v st1 (st :: sn) st1.next h (fun h => by cases h) (fun _ => h1) (fun _ _ => ⟨rfl, rfl⟩) (fun _ hf => by rw [hw] at hf; cases hf)
      · rename_i hw
        simp only [Res.bind_eq_ok, Res.need_eq_ok, Bool.or_eq_true, decide_eq_true_eq] at h
        obtain ⟨_, hst, h⟩ := h
        exact build v st1 sn base h (fun h => by cases h) (fun _ => h1) (fun _ ht => absurd ht hw) (fun _ _ => ⟨rfl, rfl, hst⟩)

section
variable {P : Program} {ops : Array Oper} {n : Nat}

theorem compDraw_at {d : DOper} {o : Oper} (hd : d ∈ compDraw P ops n) (ho : ops.toList[d.ix]? = some o) : d.o = compOper P ops n o ∧ d.writes = !(d.o.op.isPure || d.o.op.isLook || d.o.op.isAlloc) := by
  unfold compDraw at hd
  simp only [List.mem_map] at hd
  obtain ⟨i, _, rfl⟩ := hd
  simp only at ho
  simp [List.getElem?_map, ho]

theorem compOper_at {K : Ctx} {st : St} {e : Env} {o : Oper} {b : Bool} {v : Value} {st' : St} (hw : wants e (compOper P ops n o).guard = .ok b) (hr : b = true → AOper.run K st e.ev (compOper P ops n o).op = .ok (v, st')) :
    ∃ gd, compGuard ops o.guard = some gd ∧ dstOk n o.dst = true ∧ o.op.operands.toList.all (opdOk P) = true ∧ compOper P ops n o = ⟨o.dst, gd, compOp P o⟩ := by
  unfold compOper at hw hr ⊢
  split at hw
  · rename_i gd hg
    split at hw
    · rename_i hc
      rw [Bool.and_eq_true] at hc
      simp only [hg, hc.1, hc.2, Bool.and_self, if_true]
      exact ⟨gd, rfl, trivial, trivial, rfl⟩
    · rename_i hc
      simp only [wants] at hw
      cases hw
      simp only [hg, hc, if_false, Bool.false_eq_true] at hr
      exact (bad_oper (hr trivial)).elim
  · rename_i hg
    simp only [wants] at hw
    cases hw
    simp only [hg] at hr
    exact (bad_oper (hr trivial)).elim

theorem compOp_look {o : Oper} {a : AOp} (h : compOp P o = a) (hl : a.isLook = true) : ∃ x, a.lookAt = some x ∧ x ∈ o.op.operands.toList := by
  have hb : AOp.bad.isLook = false := rfl
  have hE : ∀ {neg op t x y}, (compEq P neg op t x y).isLook = false := by
    intro neg op t x y
    unfold compEq
    (repeat' split) <;> rfl
  subst h
  unfold compOp at hl ⊢
  split at hl
  all_goals first
    | (cases hl; done)
    | skip
  all_goals rename_i ho
  all_goals first
    | (unfold compBin at hl; (repeat' split at hl) <;> first | (cases hl; done) | (rw [hE] at hl; cases hl; done))
    | (unfold compConv at hl; (repeat' split at hl) <;> cases hl; done)
    | skip
  all_goals first
    | ((repeat' split at hl) <;> first | (cases hl; done))
    | skip
  all_goals revert hl
  case h_30 =>
    rename_i c
    split
    · rename_i b hc
      intro hl
      have hlen : ∀ x, x ∈ c.args.toList → x ∈ o.op.operands.toList := fun x hx => by
        simp [Op.operands, ho, Call.operands, hc]; simpa using hx
      generalize c.args.toList = args at hl hlen ⊢
      generalize c.argTypes.toList = ts at hl ⊢
      revert hl
      unfold compBuiltin
      (repeat' split) <;> intro hl <;> first
        | (cases hl; done)
        | exact ⟨_, rfl, hlen _ (by simp)⟩
    · intro hl; cases hl
    · intro hl; cases hl
  all_goals ((repeat' split) <;> intro hl <;> first
    | (cases hl; done)
    | exact ⟨_, rfl, by simp [Op.operands, ho]⟩)

theorem idOf_rel {g : Ghost} {v v' : Value} {id : Nat} (h : Rel g v v') (hi : idOf v = some id) : ∃ G, g id = some G := by
  cases h with
  | ptr h => simp [idOf] at hi; subst hi; exact ⟨_, h⟩
  | slice h => simp [idOf] at hi; subst hi; exact ⟨_, h⟩
  | emptySlice h => simp [idOf] at hi; subst hi; exact ⟨_, h⟩
  | map h => simp [idOf] at hi; subst hi; exact ⟨_, h⟩
  | flat h =>
    unfold idOf at hi
    split at hi <;> simp_all [flat]
  | _ => simp [idOf, AM.nothing, AM.skipped] at hi
end
end Go.AM
