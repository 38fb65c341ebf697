/-
  THE ABSTRACT MACHINE, 8: '==', maps.
-/
import Derived.Test.YtfknooeebmdfoaaAmOpsD
import Derived.Laws.StructEq
set_option linter.unusedVariables false
set_option linter.unusedSimpArgs false
set_option linter.unnecessarySimpa false
namespace Go.AM

section
variable {P : Program} {g : Ghost} {st st' : St} {w : World} {ρ ρ' : Operand → Value} {o : Oper} {v : Value}

theorem cellKind_under {t : TypeId} {k : CellK} (h : cellKind P t = some k) :
    (∃ i, k = .int ∧ P.underlying t = some (.int i)) ∨ (k = .str ∧ P.underlying t = some .string) ∨ (k = .bool ∧ P.underlying t = some .bool) := by
  unfold cellKind at h
  split at h
  · rename_i i hi; cases h; exact .inl ⟨i, rfl, hi⟩
  · rename_i hi; cases h; exact .inr (.inl ⟨rfl, hi⟩)
  · rename_i hi; cases h; exact .inr (.inr ⟨rfl, hi⟩)
  · cases h

theorem cellEq_run {t : TypeId} {k : CellK} {x y x' y' : Value} {b : Bool} (hk : cellKind P t = some k) (h : cellEq k x y = some b) (hx : Rel g x x') (hy : Rel g y y') (d : Nat) :
    (Op.equalIn (d + 1) t x' y').run P w = .ok b w := by
  rcases cellKind_under hk with ⟨i, rfl, hu⟩ | ⟨rfl, hu⟩ | ⟨rfl, hu⟩
  · cases x <;> cases y <;> simp only [cellEq] at h <;> try (cases h; done)
    split at h
    · rename_i hkk; subst hkk; cases h
      rw [hx.int, hy.int]
      exact run_equalIn_int w d t _ i _ _ hu
    · cases h
  · cases x <;> cases y <;> simp only [cellEq] at h <;> try (cases h; done)
    cases h
    rw [hx.string, hy.string, run_equalIn_string w d t _ _ hu, beq_toListBytes]
  · cases x <;> cases y <;> simp only [cellEq] at h <;> try (cases h; done)
    cases h
    rw [hx.bool, hy.bool]
    exact run_equalIn_bool' w d t _ _ hu

theorem cellKind_agg {t : TypeId} {k : CellK} (hk : cellKind P t = some k) : (isAgg t).run P w = .ok false w := by
  unfold isAgg
  rcases cellKind_under hk with ⟨i, rfl, hu⟩ | ⟨rfl, hu⟩ | ⟨rfl, hu⟩ <;> simp [underlying, hu]

theorem fieldsEq_run (d : Nat) {xs ys xs' ys' : Array Value} (hx : RelL g xs.toList xs'.toList) (hy : RelL g ys.toList ys'.toList) : ∀ (fs : List Field) (l : List (Nat × CellK)) (b : Bool),
    cellFields P fs = some l → fieldsEq xs.toList ys.toList l = some b → (Op.eqFields (d + 1) xs' ys' fs).run P w = .ok b w := by
  intro fs
  induction fs with
  | nil =>
    intro l b hl h
    simp [cellFields] at hl
    subst hl
    simp [fieldsEq] at h
    subst h
    simp [Op.eqFields]
  | cons f fs ih =>
    intro l b hl h
    simp only [cellFields] at hl
    split at hl
    · cases hl
    · rename_i hname
      split at hl
      · rename_i k l' hk hl'
        cases hl
        simp only [fieldsEq] at h
        split at h
        · rename_i x y hxo hyo
          obtain ⟨x', hx', hrx⟩ := hx.get hxo
          obtain ⟨y', hy', hry⟩ := hy.get hyo
          have hx2 : xs'[f.offset]? = some x' := by simpa using hx'
          have hy2 : ys'[f.offset]? = some y' := by simpa using hy'
          have hp1 : (Go.part f.type xs' f.offset).run P w = .ok x' w := by simp [Go.part, cellKind_agg hk, hx2]
          have hp2 : (Go.part f.type ys' f.offset).run P w = .ok y' w := by simp [Go.part, cellKind_agg hk, hy2]
          have hne : (f.name ≠ "_") := hname
          have he := fun b hb => cellEq_run (P := P) (w := w) (b := b) hk hb hrx hry d
          split at h
          · rename_i he1
            have := he true he1
            simp [Op.eqFields, hne, hp1, hp2, this]
            exact ih l' b hl' h
          · rename_i r hr
            cases b with
            | true => exact absurd h hr
            | false =>
              have := he false h
              simp [Op.eqFields, hne, hp1, hp2, this]
        · cases h
      · cases hl

theorem isNil_ptr {x x' : Value} {a : Bool} (h : isNil .ptr x = some a) (hx : Rel g x x') : ∃ p, x' = .pointer p ∧ p.isNone = a := by
  cases x <;> simp only [isNil] at h <;> try (cases h; done)
  rename_i p
  cases h
  cases hx with
  | flat h => cases p with
    | none => exact ⟨none, rfl, rfl⟩
    | some p => simp [AM.flat] at h
  | ptr h => exact ⟨_, rfl, rfl⟩

theorem isNil_slice {x x' : Value} {a : Bool} (h : isNil .slice x = some a) (hx : Rel g x x') : ∃ p n c, x' = .slice p n c ∧ p.isNone = a := by
  cases x <;> simp only [isNil] at h <;> try (cases h; done)
  rename_i p n c
  cases h
  cases hx with
  | flat h => simp [AM.flat] at h
  | nilSlice s => exact ⟨_, _, _, rfl, rfl⟩
  | slice hG h0 hn he hr => exact ⟨_, _, _, rfl, rfl⟩
  | emptySlice hG h0 he hr ha => exact ⟨_, _, _, rfl, rfl⟩

theorem isNil_map {x x' : Value} {a : Bool} (h : isNil .map x = some a) (hx : Rel g x x') : ∃ p, x' = .map p ∧ p.isNone = a := by
  cases x <;> simp only [isNil] at h <;> try (cases h; done)
  rename_i p
  cases h
  cases hx with
  | flat h => cases p with
    | none => exact ⟨none, rfl, rfl⟩
    | some p => simp [AM.flat] at h
  | map h => exact ⟨_, rfl, rfl⟩

theorem isNil_func {x x' : Value} {a : Bool} (h : isNil .func x = some a) (hx : Rel g x x') : (x' = .nilFunc ∧ a = true) ∨ (∃ f b c, x' = .func f b c) ∧ a = false := by
  cases x <;> simp only [isNil] at h <;> try (cases h; done)
  · cases h
    cases hx with
    | flat h => simp [AM.flat] at h
    | func ha hc h k => exact .inr ⟨⟨_, _, _, rfl⟩, rfl⟩
    | yield h => exact .inr ⟨⟨_, _, _, rfl⟩, rfl⟩
  · cases h; exact .inl ⟨hx.nilFunc, rfl⟩

theorem isNil_iface {x x' : Value} {a : Bool} (h : isNil .iface x = some a) (hx : Rel g x x') : (x' = .nilIface ∧ a = true) ∨ (∃ t u, x' = .iface t u) ∧ a = false := by
  cases x <;> simp only [isNil] at h <;> try (cases h; done)
  · cases h
    obtain ⟨y, hy, _⟩ := hx.toIface
    exact .inr ⟨⟨_, _, hy⟩, rfl⟩
  · cases h; exact .inl ⟨hx.nilIface, rfl⟩

theorem did_eq {op : BinOp} {neg : Bool} {t t' : TypeId} {x y : Operand} {k : EqK} (ho : o.op = .binOp op t x y t') (hop : op = .eql ∧ neg = false ∨ op = .neq ∧ neg = true)
    (key : ∀ b, aeq k (ρ x) (ρ y) = .ok b → (eqGuard op t x y (ρ' x) (ρ' y)).run P w = .ok () w ∧ (Op.equal t (ρ' x) (ρ' y)).run P w = .ok b w ∧
      binOp .eql t (ρ' x) (ρ' y) = (do pure (.bool (← Op.equal t (ρ' x) (ρ' y)))) ∧ binOp .neq t (ρ' x) (ρ' y) = (do pure (.bool (!(← Op.equal t (ρ' x) (ρ' y))))))
    (hR : Rl P st.ro g st.get w.heap) (h : (AOp.eq neg k x y).run st ρ = .ok (v, st')) : Did P g st w v st' ((execOp ρ' o).run P w) := by
  simp only [AOp.run, Res.bind_eq_ok, Res.pure_eq] at h
  obtain ⟨b, hb, h⟩ := h
  cases h
  obtain ⟨h1, h2, h3, h4⟩ := key b hb
  have e : (execOp ρ' o).run P w = .ok (.value (.bool (if neg then !b else b))) w := by
    rcases hop with ⟨rfl, rfl⟩ | ⟨rfl, rfl⟩ <;> simp [execOp, ho, h1, h2, h3, h4]
  rw [e]
  exact Did.same hR (.flat rfl)

theorem key_bools {op : BinOp} {t : TypeId} {x y : Operand} (hu : P.underlying t = some .bool) (hx : Rel g (ρ x) (ρ' x)) (hy : Rel g (ρ y) (ρ' y)) : ∀ b, aeq .bools (ρ x) (ρ y) = .ok b →
    (eqGuard op t x y (ρ' x) (ρ' y)).run P w = .ok () w ∧ (Op.equal t (ρ' x) (ρ' y)).run P w = .ok b w ∧
      binOp .eql t (ρ' x) (ρ' y) = (do pure (.bool (← Op.equal t (ρ' x) (ρ' y)))) ∧ binOp .neq t (ρ' x) (ρ' y) = (do pure (.bool (!(← Op.equal t (ρ' x) (ρ' y))))) := by
  intro b h
  simp only [aeq] at h
  split at h
  · rename_i p q hp hq
    cases h
    rw [hp] at hx
    rw [hq] at hy
    rw [hx.bool, hy.bool]
    exact ⟨by rw [eqGuard_at_bool]; rfl, run_equalIn_bool' w 9999 t _ _ hu, rfl, rfl⟩
  · cases h

theorem key_fields {op : BinOp} {t : TypeId} {fs : Array Field} {l : List (Nat × CellK)} {x y : Operand} (hu : P.underlying t = some (.struct fs)) (h1 : P.eqGuardType P.depth t = false) (h2 : P.stoodInHeld t = false)
    (hl : cellFields P fs.toList = some l) (hx : Rel g (ρ x) (ρ' x)) (hy : Rel g (ρ y) (ρ' y)) : ∀ b, aeq (.fields l) (ρ x) (ρ y) = .ok b →
    (eqGuard op t x y (ρ' x) (ρ' y)).run P w = .ok () w ∧ (Op.equal t (ρ' x) (ρ' y)).run P w = .ok b w ∧
      binOp .eql t (ρ' x) (ρ' y) = (do pure (.bool (← Op.equal t (ρ' x) (ρ' y)))) ∧ binOp .neq t (ρ' x) (ρ' y) = (do pure (.bool (!(← Op.equal t (ρ' x) (ρ' y))))) := by
  intro b h
  simp only [aeq] at h
  split at h
  · rename_i p q hp hq
    rw [Res.of_eq_ok] at h
    rw [hp] at hx
    rw [hq] at hy
    obtain ⟨p', hp', hrp⟩ := hx.toAgg
    obtain ⟨q', hq', hrq⟩ := hy.toAgg
    rw [hp', hq']
    have hf : P.fieldsOf t = fs := by simp [Program.fieldsOf, hu]
    refine ⟨run_eqGuard_agg w op t x y _ _ h1, ?_, rfl, rfl⟩
    show (Op.equalIn (9999 + 1) t (.agg p') (.agg q')).run P w = _
    rw [run_equalIn_agg w 9999 t p' q' (by rw [hf]; exact hu) h2, hf]
    exact fieldsEq_run 9998 hrp hrq fs.toList l b hl h
  · cases h

theorem nil_both {a b c : Bool} (h : (if a || b then (.ok (a && b) : Res Bool) else .err "==: neither is nil") = .ok c) : (a = true ∨ b = true) ∧ c = (a && b) := by
  cases a <;> cases b <;> simp at h ⊢ <;> exact h

theorem eqIn_ptr {t e : TypeId} (hu : P.underlying t = some (.pointer e)) (d : Nat) {p q : Option Addr} (hor : p.isNone = true ∨ q.isNone = true) :
    (Op.equalIn (d + 1) t (.pointer p) (.pointer q)).run P w = .ok (p.isNone && q.isNone) w := by
  cases p <;> cases q <;> simp [Op.equalIn, underlying, hu] at hor ⊢

theorem eqIn_slice {t e : TypeId} (hu : P.underlying t = some (.slice e)) (d : Nat) {p q : Option Addr} {n c n' c' : Nat} (hor : p.isNone = true ∨ q.isNone = true) :
    (Op.equalIn (d + 1) t (.slice p n c) (.slice q n' c')).run P w = .ok (p.isNone && q.isNone) w := by
  cases p <;> cases q <;> simp [Op.equalIn, underlying, hu] at hor ⊢

theorem eqIn_map {t a b : TypeId} (hu : P.underlying t = some (.map a b)) (d : Nat) {p q : Option Nat} (hor : p.isNone = true ∨ q.isNone = true) :
    (Op.equalIn (d + 1) t (.map p) (.map q)).run P w = .ok (p.isNone && q.isNone) w := by
  cases p <;> cases q <;> simp [Op.equalIn, underlying, hu] at hor ⊢

theorem eqIn_func {t : TypeId} {a b : Array TypeId} {c : Bool} (hu : P.underlying t = some (.func a b c)) (d : Nat) (f : Fn) (p q : Array Value) :
    (Op.equalIn (d + 1) t .nilFunc .nilFunc).run P w = .ok true w ∧ (Op.equalIn (d + 1) t .nilFunc (.func f p q)).run P w = .ok false w ∧ (Op.equalIn (d + 1) t (.func f p q) .nilFunc).run P w = .ok false w := by
  refine ⟨?_, ?_, ?_⟩ <;> simp [Op.equalIn, underlying, hu]

theorem eqIn_iface {t : TypeId} {ms : Array (String × TypeId)} (hu : P.underlying t = some (.interface ms)) (d : Nat) (f : TypeId) (p : Value) :
    (Op.equalIn (d + 1) t .nilIface .nilIface).run P w = .ok true w ∧ (Op.equalIn (d + 1) t .nilIface (.iface f p)).run P w = .ok false w ∧ (Op.equalIn (d + 1) t (.iface f p) .nilIface).run P w = .ok false w := by
  refine ⟨?_, ?_, ?_⟩ <;> simp [Op.equalIn, underlying, hu]

theorem key_nil {op : BinOp} {t : TypeId} {k : NilK} {x y : Operand} (hop : op = .eql ∨ op = .neq)
    (hu : match k with
      | .ptr => ∃ e, P.underlying t = some (.pointer e)
      | .slice => ∃ e, P.underlying t = some (.slice e)
      | .map => ∃ a b, P.underlying t = some (.map a b)
      | .func => ∃ a b c, P.underlying t = some (.func a b c)
      | .iface => (∃ ms, P.underlying t = some (.interface ms)) ∧ ((∃ c, x = .const c) ∨ (∃ c, y = .const c)))
    (hx : Rel g (ρ x) (ρ' x)) (hy : Rel g (ρ y) (ρ' y)) : ∀ b, aeq (.nilOf k) (ρ x) (ρ y) = .ok b →
    (eqGuard op t x y (ρ' x) (ρ' y)).run P w = .ok () w ∧ (Op.equal t (ρ' x) (ρ' y)).run P w = .ok b w ∧
      binOp .eql t (ρ' x) (ρ' y) = (do pure (.bool (← Op.equal t (ρ' x) (ρ' y)))) ∧ binOp .neq t (ρ' x) (ρ' y) = (do pure (.bool (!(← Op.equal t (ρ' x) (ρ' y))))) := by
  intro b h
  simp only [aeq] at h
  split at h
  · rename_i p q hp hq
    obtain ⟨hor, rfl⟩ := nil_both h
    cases k with
    | ptr =>
      obtain ⟨e, hu⟩ := hu
      obtain ⟨p', hp', rfl⟩ := isNil_ptr hp hx
      obtain ⟨q', hq', rfl⟩ := isNil_ptr hq hy
      rw [hp', hq']
      exact ⟨by rw [eqGuard_at_pointer]; rfl, eqIn_ptr hu 9999 hor, rfl, rfl⟩
    | slice =>
      obtain ⟨e, hu⟩ := hu
      obtain ⟨p', _, _, hp', rfl⟩ := isNil_slice hp hx
      obtain ⟨q', _, _, hq', rfl⟩ := isNil_slice hq hy
      rw [hp', hq']
      exact ⟨by rw [eqGuard_at_slice]; rfl, eqIn_slice hu 9999 hor, rfl, rfl⟩
    | map =>
      obtain ⟨a, b, hu⟩ := hu
      obtain ⟨p', hp', rfl⟩ := isNil_map hp hx
      obtain ⟨q', hq', rfl⟩ := isNil_map hq hy
      rw [hp', hq']
      exact ⟨by rw [eqGuard_at_map]; rfl, eqIn_map hu 9999 hor, rfl, rfl⟩
    | func =>
      obtain ⟨a, b, c, hu⟩ := hu
      rcases isNil_func hp hx with ⟨hp', rfl⟩ | ⟨⟨f, p1, p2, hp'⟩, rfl⟩ <;> rcases isNil_func hq hy with ⟨hq', rfl⟩ | ⟨⟨f', q1, q2, hq'⟩, rfl⟩ <;> rw [hp', hq']
      · exact ⟨by rw [eqGuard_at_nilFunc]; rfl, (eqIn_func hu 9999 (.func 0) #[] #[]).1, rfl, rfl⟩
      · exact ⟨by rw [eqGuard_at_nilFunc]; rfl, (eqIn_func hu 9999 f' q1 q2).2.1, rfl, rfl⟩
      · exact ⟨by rw [eqGuard_at_func]; rfl, (eqIn_func hu 9999 f p1 p2).2.2, rfl, rfl⟩
      · simp at hor
    | iface =>
      obtain ⟨⟨ms, hu⟩, hc⟩ := hu
      rcases isNil_iface hp hx with ⟨hp', rfl⟩ | ⟨⟨f, p1, hp'⟩, rfl⟩ <;> rcases isNil_iface hq hy with ⟨hq', rfl⟩ | ⟨⟨f', q1, hq'⟩, rfl⟩ <;> rw [hp', hq']
      · refine ⟨?_, (eqIn_iface hu 9999 0 .nilIface).1, rfl, rfl⟩
        rcases hc with ⟨c, rfl⟩ | ⟨c, rfl⟩
        · rw [eqGuard_nil_constL]; rfl
        · rw [eqGuard_nil_constR]; rfl
      · exact ⟨by rw [eqGuard_nil_iface]; rfl, (eqIn_iface hu 9999 f' q1).2.1, rfl, rfl⟩
      · exact ⟨by rw [eqGuard_at_iface]; rfl, (eqIn_iface hu 9999 f p1).2.2, rfl, rfl⟩
      · simp at hor
  · cases h
end
end Go.AM
