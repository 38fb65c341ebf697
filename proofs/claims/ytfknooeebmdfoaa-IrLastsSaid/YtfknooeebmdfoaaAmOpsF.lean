/-
  THE ABSTRACT MACHINE, 9: maps.
-/
import Derived.Test.YtfknooeebmdfoaaAmOpsE
set_option linter.unusedVariables false
set_option linter.unusedSimpArgs false
set_option linter.unnecessarySimpa false
namespace Go.AM

section
variable {P : Program} {g : Ghost} {st st' : St} {w : World} {ρ ρ' : Operand → Value} {o : Oper} {v : Value}

def KeyFits (P : Program) (kt : TypeId) : KeyK → Prop
  | .cell k => cellKind P kt = some k
  | .struct l => ∃ fs, P.underlying kt = some (.struct fs) ∧ P.stoodInHeld kt = false ∧ cellFields P fs.toList = some l ∧ l.map (·.1) = List.range l.length

theorem keyType_fits {kt : TypeId} {q : KeyK} (h : keyType P kt = some q) : KeyFits P kt q := by
  unfold keyType at h
  split at h
  · rename_i i hi; cases h; simp [KeyFits, cellKind, hi]
  · rename_i hi; cases h; simp [KeyFits, cellKind, hi]
  · rename_i hi; cases h; simp [KeyFits, cellKind, hi]
  · rename_i fs hi
    split at h
    · cases h
    · rename_i hs
      split at h
      · rename_i l hl
        split at h
        · rename_i hr
          cases h
          exact ⟨fs, hi, by simpa using hs, hl, hr⟩
        · cases h
      · cases h
  · cases h

theorem bytes_beq {a b : ByteArray} (h : (a == b) = true) : a = b := by
  obtain ⟨⟨x⟩⟩ := a
  obtain ⟨⟨y⟩⟩ := b
  have : ((⟨x⟩ : Array UInt8) == ⟨y⟩) = true := h
  simp at this
  rw [this]

theorem cellEq_eq {k : CellK} {x y : Value} (h : cellEq k x y = some true) : x = y := by
  cases k <;> cases x <;> cases y <;> simp only [cellEq] at h <;> try (cases h; done)
  · split at h
    · rename_i hk; subst hk; simp at h; rw [h]
    · cases h
  · simp only [Option.some.injEq] at h; rw [bytes_beq h]
  · simp at h; rw [h]

theorem fieldsEq_eq {xs ys : List Value} : ∀ (l : List (Nat × CellK)), fieldsEq xs ys l = some true → ∀ p ∈ l, xs[p.1]? = ys[p.1]?
  | [], _, p, hp => by simp at hp
  | (o, k) :: l, h, p, hp => by
    simp only [fieldsEq] at h
    split at h
    · rename_i x y hx hy
      split at h
      · rename_i he
        rcases List.mem_cons.1 hp with rfl | hp
        · simp only [hx, hy, cellEq_eq he]
        · exact fieldsEq_eq l h p hp
      · rename_i r hr; exact absurd h (hr)
    · cases h

theorem cellIs_rel {k : CellK} {x x' : Value} (h : cellIs k x = true) (hx : Rel g x x') : x' = x := by
  cases k <;> cases x <;> simp [cellIs] at h
  · exact hx.int
  · exact hx.string
  · exact hx.bool

theorem range_all {l : List (Nat × CellK)} (hr : l.map (·.1) = List.range l.length) {i : Nat} (hi : i < l.length) : ∃ k, (i, k) ∈ l := by
  have : i ∈ l.map (·.1) := by rw [hr]; exact List.mem_range.2 hi
  obtain ⟨⟨j, k⟩, hm, rfl⟩ := List.mem_map.1 this
  exact ⟨k, hm⟩

/-- Keys hold no address. -/
theorem keyOk_rel {kt : TypeId} {q : KeyK} {k k' : Value} (hq : KeyFits P kt q) (h : keyOk q k = true) (hk : Rel g k k') : k' = k := by
  cases q with
  | cell c => exact cellIs_rel h hk
  | struct l =>
    cases k <;> simp only [keyOk] at h <;> try (cases h; done)
    rename_i cs
    rw [Bool.and_eq_true] at h
    obtain ⟨hs, hall⟩ := h
    have hs' : cs.size = l.length := by simpa using hs
    obtain ⟨cs', rfl, hr⟩ := hk.toAgg
    obtain ⟨fs, _, _, _, hrange⟩ := hq
    congr 1
    apply Array.ext'
    apply List.ext_getElem?
    intro i
    by_cases hi : i < l.length
    · obtain ⟨c, hc⟩ := range_all hrange hi
      have := List.all_eq_true.1 hall (i, c) hc
      simp only at this
      split at this
      · rename_i x hx
        obtain ⟨x', hx', hrx⟩ := hr.get hx
        rw [hx', hx, cellIs_rel this hrx]
      · cases this
    · have h1 := hr.1
      simp at h1
      rw [List.getElem?_eq_none (by simp; omega), List.getElem?_eq_none (by simp; omega)]

theorem keyEq_eq {kt : TypeId} {q : KeyK} {k u : Value} (hq : KeyFits P kt q) (hk : keyOk q k = true) (h : keyEq q k u = some true) : u = k := by
  cases q with
  | cell c => exact (cellEq_eq h).symm
  | struct l =>
    cases k <;> simp only [keyOk] at hk <;> try (cases hk; done)
    rename_i cs
    rw [Bool.and_eq_true] at hk
    have hs' : cs.size = l.length := by simpa using hk.1
    cases u <;> simp only [keyEq] at h <;> try (cases h; done)
    rename_i ds
    split at h
    · rename_i hd
      obtain ⟨fs, _, _, _, hrange⟩ := hq
      congr 1
      apply Array.ext'
      apply List.ext_getElem?
      intro i
      by_cases hi : i < l.length
      · obtain ⟨c, hc⟩ := range_all hrange hi
        exact (fieldsEq_eq l h (i, c) hc).symm
      · rw [List.getElem?_eq_none (by simp; omega), List.getElem?_eq_none (by simp; omega)]
    · cases h

theorem sameBits_cell {c : CellK} {x : Value} (h : cellIs c x = true) (n : Nat) : Instr.sameBits n x x = true := by
  cases c <;> cases x <;> simp [cellIs] at h <;> simp [Instr.sameBits, beq_toListBytes]

theorem sameBits_key {kt : TypeId} {q : KeyK} {k : Value} (hq : KeyFits P kt q) (h : keyOk q k = true) (n : Nat) : Instr.sameBits (n + 1) k k = true := by
  cases q with
  | cell c => exact sameBits_cell h _
  | struct l =>
    cases k <;> simp only [keyOk] at h <;> try (cases h; done)
    rename_i cs
    rw [Bool.and_eq_true] at h
    obtain ⟨hs, hall⟩ := h
    have hs' : cs.size = l.length := by simpa using hs
    obtain ⟨fs, _, _, _, hrange⟩ := hq
    simp only [Instr.sameBits, beq_self_eq_true, Bool.true_and, List.all_eq_true]
    rintro ⟨x, y⟩ hxy
    obtain ⟨i, hi⟩ := List.mem_iff_getElem?.1 hxy
    rw [List.getElem?_zip_eq_some] at hi
    obtain ⟨h1, h2⟩ := hi
    rw [h1] at h2
    cases h2
    have hil : i < l.length := by
      rcases Nat.lt_or_ge i l.length with h | h
      · exact h
      · rw [List.getElem?_eq_none (by simp; omega)] at h1; cases h1
    obtain ⟨c, hc⟩ := range_all hrange hil
    have := List.all_eq_true.1 hall (i, c) hc
    simp only [h1] at this
    exact sameBits_cell this n

theorem checkKey_fields {em : Bool} {cs : Array Value} (n : Nat) : ∀ (fs : List Field) (l : List (Nat × CellK)), cellFields P fs = some l → (l.all fun (o, k) => match cs.toList[o]? with | some c => cellIs k c | none => false) = true →
    (forIn (m := Sem) fs PUnit.unit fun f _ => (if f.name ≠ "_" then do Instr.checkKey em (n + 1) f.type (← Go.part f.type cs f.offset); pure (ForInStep.yield PUnit.unit) else do pure PUnit.unit; pure (ForInStep.yield PUnit.unit))).run P w = .ok PUnit.unit w := by
  intro fs
  induction fs with
  | nil => intro l _ _; simp
  | cons f fs ih =>
    intro l hl hall
    simp only [cellFields] at hl
    split at hl
    · cases hl
    · rename_i hname
      split at hl
      · rename_i k l' hk hl'
        cases hl
        simp only [List.all_cons, Bool.and_eq_true] at hall
        obtain ⟨h1, h2⟩ := hall
        split at h1
        · rename_i c hc
          have hp : (Go.part f.type cs f.offset).run P w = .ok c w := by
            have : cs[f.offset]? = some c := by simpa using hc
            simp [Go.part, cellKind_agg hk, this]
          have hck : (Instr.checkKey em (n + 1) f.type c).run P w = .ok () w := by
            rcases cellKind_under hk with ⟨i, rfl, hu⟩ | ⟨rfl, hu⟩ | ⟨rfl, hu⟩ <;> simp [Instr.checkKey, underlying, hu]
          simp only [List.forIn_cons, Sem.run_bind]
          have hne : f.name ≠ "_" := hname
          simp only [hne, ne_eq, not_false_eq_true, if_true, Sem.run_bind, hp, Result.andThen_ok, hck, Sem.run_pure]
          exact ih l' hl' h2
        · cases h1
      · cases hl

theorem checkKey_run {kt : TypeId} {q : KeyK} {k : Value} {em : Bool} (hq : KeyFits P kt q) (h : keyOk q k = true) (n : Nat) : (Instr.checkKey em (n + 2) kt k).run P w = .ok () w := by
  cases q with
  | cell c => rcases cellKind_under hq with ⟨i, rfl, hu⟩ | ⟨rfl, hu⟩ | ⟨rfl, hu⟩ <;> simp [Instr.checkKey, underlying, hu]
  | struct l =>
    obtain ⟨fs, hu, _, hl, _⟩ := hq
    cases k <;> simp only [keyOk] at h <;> try (cases h; done)
    rename_i cs
    rw [Bool.and_eq_true] at h
    have := checkKey_fields (P := P) (w := w) (em := em) (cs := cs) n fs.toList l hl h.2
    rw [Instr.checkKey]
    simp only [Sem.run_bind, underlying, run_program, Result.andThen_ok, hu, Sem.run_pure]
    rw [← Array.forIn_toList]
    simp at this
    simp [this]

/-! Where a key is -/

def MapList (g : Ghost) (es : List (Value × Value)) (ents : List MapEntry) : Prop :=
  es.length = ents.length ∧ ∀ (i : Nat) (q : Value × Value), es[i]? = some q → ∃ e : MapEntry, ents[i]? = some e ∧ e.key = q.1 ∧ Rel g q.2 e.val

theorem MapList.tail {p : Value × Value} {es : List (Value × Value)} {e : MapEntry} {ents : List MapEntry} (h : MapList g (p :: es) (e :: ents)) : MapList g es ents ∧ e.key = p.1 ∧ Rel g p.2 e.val := by
  refine ⟨⟨by simpa using h.1, fun i q hq => by simpa using h.2 (i + 1) q (by simpa using hq)⟩, ?_⟩
  obtain ⟨e', he', hk, hr⟩ := h.2 0 p (by simp)
  simp at he'
  subst he'
  exact ⟨hk, hr⟩

/-- What is found, and where. -/
def Found (g : Ghost) (k : Value) (i : Nat) (ents : List MapEntry) : Option (Nat × Value) → Option (Nat × Value) → Prop
  | none, r => r = none
  | some (j, v), r => ∃ e, i ≤ j ∧ ents[j - i]? = some e ∧ e.key = k ∧ Rel g v e.val ∧ r = some (j, e.val)

theorem Found.shift {k : Value} {i : Nat} {e : MapEntry} {ents : List MapEntry} {a b : Option (Nat × Value)} (h : Found g k (i + 1) ents a b) : Found g k i (e :: ents) a b := by
  cases a with
  | none => exact h
  | some p =>
    obtain ⟨j, v⟩ := p
    obtain ⟨e', h1, h2, h3⟩ := h
    refine ⟨e', by omega, ?_, h3⟩
    have : j - i = (j - (i + 1)) + 1 := by omega
    rw [this]
    simpa using h2

theorem findNow_cell {kt : TypeId} {c : CellK} {d : TypeDesc} {k : Value} (hq : cellKind P kt = some c) (hd : P.underlying kt = some d) (hk : cellIs c k = true) : ∀ (es : List (Value × Value)) (ents : List MapEntry) (i : Nat) (r : Option (Nat × Value)),
    MapList g es ents → findK (.cell c) k es i = .ok r → ∃ r', Instr.findNow d k ents i = some r' ∧ Found g k i ents r r' := by
  intro es
  induction es with
  | nil =>
    intro ents i r hm h
    have : ents = [] := by have := hm.1; simpa using this.symm
    subst this
    simp [findK] at h
    subst h
    exact ⟨none, rfl, rfl⟩
  | cons p es ih =>
    intro ents i r hm h
    obtain ⟨u, v⟩ := p
    cases ents with
    | nil => have := hm.1; simp at this
    | cons e ents =>
      obtain ⟨hm', hkey, hrel⟩ := hm.tail
      simp only at hkey
      have hsame : Instr.sameNow d k u = cellEq c k u ∨ cellEq c k u = none := by
        rcases cellKind_under hq with ⟨q, rfl, hu⟩ | ⟨rfl, hu⟩ | ⟨rfl, hu⟩ <;> rw [hu] at hd <;> cases hd <;>
          cases k <;> simp [cellIs] at hk <;> cases u <;> simp [cellEq, Instr.sameNow]
      simp only [findK, keyEq] at h
      split at h
      · rename_i he
        cases h
        rcases hsame with hs | hs
        · refine ⟨some (i, e.val), by simp [Instr.findNow, hkey, hs, he], e, Nat.le_refl _, by simp, ?_, hrel, rfl⟩
          rw [hkey, ← cellEq_eq he]
        · rw [hs] at he; cases he
      · rename_i he
        rcases hsame with hs | hs
        · obtain ⟨r', h1, h2⟩ := ih ents (i + 1) r hm' h
          exact ⟨r', by simp [Instr.findNow, hkey, hs, he, h1], h2.shift⟩
        · rw [hs] at he; cases he
      · cases h

theorem findAsking_struct {kt : TypeId} {l : List (Nat × CellK)} {k : Value} (hq : KeyFits P kt (.struct l)) (hk : keyOk (.struct l) k = true) : ∀ (es : List (Value × Value)) (ents : List MapEntry) (i : Nat) (r : Option (Nat × Value)),
    MapList g es ents → findK (.struct l) k es i = .ok r → ∃ r', (Instr.findAsking kt k ents i).run P w = .ok r' w ∧ Found g k i ents r r' := by
  have hq0 := hq
  obtain ⟨fs, hu, hst, hl, hrange⟩ := hq
  intro es
  induction es with
  | nil =>
    intro ents i r hm h
    have : ents = [] := by have := hm.1; simpa using this.symm
    subst this
    simp [findK] at h
    subst h
    exact ⟨none, by simp [Instr.findAsking], rfl⟩
  | cons p es ih =>
    intro ents i r hm h
    obtain ⟨u, v⟩ := p
    cases ents with
    | nil => have := hm.1; simp at this
    | cons e ents =>
      obtain ⟨hm', hkey, hrel⟩ := hm.tail
      simp only at hkey
      have heq : ∀ b, keyEq (.struct l) k u = some b → (Op.equal kt k u).run P w = .ok b w := by
        intro b hb
        cases k <;> simp only [keyOk] at hk <;> try (cases hk; done)
        rename_i cs
        cases u <;> simp only [keyEq] at hb <;> try (cases hb; done)
        rename_i ds
        split at hb
        · have hf : P.fieldsOf kt = fs := by simp [Program.fieldsOf, hu]
          show (Op.equalIn (9999 + 1) kt (.agg cs) (.agg ds)).run P w = _
          rw [run_equalIn_agg w 9999 kt cs ds (by rw [hf]; exact hu) hst, hf]
          have rfx : ∀ (a : Array Value) (b : List Value), fieldsEq a.toList b l = some true ∨ True → True := fun _ _ _ => trivial
          -- cells that are read hold no address
          have flatL : ∀ (fs : List Field) (l : List (Nat × CellK)) (b : Bool), cellFields P fs = some l → fieldsEq cs.toList ds.toList l = some b → (Op.eqFields (9998 + 1) cs ds fs).run P w = .ok b w := by
            intro fs
            induction fs with
            | nil =>
              intro l b hl h
              simp [cellFields] at hl
              subst hl
              simp [fieldsEq] at h
              subst h
              simp [Op.eqFields]
            | cons f fs ihf =>
              intro l b hl h
              simp only [cellFields] at hl
              split at hl
              · cases hl
              · rename_i hname
                split at hl
                · rename_i kk l' hkk hl'
                  cases hl
                  simp only [fieldsEq] at h
                  split at h
                  · rename_i x y hxo hyo
                    have hx2 : cs[f.offset]? = some x := by simpa using hxo
                    have hy2 : ds[f.offset]? = some y := by simpa using hyo
                    have hp1 : (Go.part f.type cs f.offset).run P w = .ok x w := by simp [Go.part, cellKind_agg hkk, hx2]
                    have hp2 : (Go.part f.type ds f.offset).run P w = .ok y w := by simp [Go.part, cellKind_agg hkk, hy2]
                    have hne : (f.name ≠ "_") := hname
                    have hflat : ∀ b, cellEq kk x y = some b → Rel g x x ∧ Rel g y y := by
                      intro b hb
                      cases kk <;> cases x <;> cases y <;> simp only [cellEq] at hb <;> first | (cases hb; done) | exact ⟨.flat rfl, .flat rfl⟩
                    have he := fun b hb => cellEq_run (P := P) (w := w) (b := b) hkk hb (hflat b hb).1 (hflat b hb).2 9998
                    split at h
                    · rename_i he1
                      have := he true he1
                      simp [Op.eqFields, hne, hp1, hp2, this]
                      exact ihf l' b hl' h
                    · rename_i r hr
                      cases b with
                      | true => exact absurd h hr
                      | false =>
                        have := he false h
                        simp [Op.eqFields, hne, hp1, hp2, this]
                  · cases h
                · cases hl
          exact flatL fs.toList l b hl hb
        · cases hb
      simp only [findK] at h
      split at h
      · rename_i he
        cases h
        refine ⟨some (i, e.val), by simp [Instr.findAsking, hkey, heq true he], e, Nat.le_refl _, by simp, ?_, hrel, rfl⟩
        rw [hkey, keyEq_eq hq0 hk he]
      · rename_i he
        obtain ⟨r', h1, h2⟩ := ih ents (i + 1) r hm' h
        exact ⟨r', by simp [Instr.findAsking, hkey, heq false he, h1], h2.shift⟩
      · cases h

theorem findKey_run {kt : TypeId} {q : KeyK} {k : Value} {es : List (Value × Value)} {ents : List MapEntry} {r : Option (Nat × Value)} (hq : KeyFits P kt q) (hk : keyOk q k = true) (hm : MapList g es ents) (h : findK q k es 0 = .ok r) :
    ∃ r', (Instr.findKey kt k ents).run P w = .ok r' w ∧ Found g k 0 ents r r' := by
  cases q with
  | cell c =>
    have hd : ∃ d, P.underlying kt = some d := by
      rcases cellKind_under hq with ⟨i, rfl, hu⟩ | ⟨rfl, hu⟩ | ⟨rfl, hu⟩ <;> exact ⟨_, hu⟩
    obtain ⟨d, hd⟩ := hd
    obtain ⟨r', h1, h2⟩ := findNow_cell hq hd hk es ents 0 r hm h
    exact ⟨r', by simp [Instr.findKey, underlying, hd, h1], h2⟩
  | struct l =>
    have hq0 := hq
    obtain ⟨fs, hu, _⟩ := hq
    obtain ⟨r', h1, h2⟩ := findAsking_struct (w := w) hq0 hk es ents 0 r hm h
    cases ents with
    | nil =>
      have : es = [] := by have := hm.1; simpa using this
      subst this
      simp [findK] at h
      subst h
      exact ⟨none, by simp [Instr.findKey, underlying, hu, Instr.findNow], rfl⟩
    | cons e ents =>
      refine ⟨r', ?_, h2⟩
      have hs : Instr.sameNow (.struct fs) k e.key = none := by cases k <;> cases e.key <;> rfl
      simp [Instr.findKey, underlying, hu, Instr.findNow, hs, h1]
end
end Go.AM
