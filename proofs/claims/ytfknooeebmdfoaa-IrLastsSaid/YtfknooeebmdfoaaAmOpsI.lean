/-
  THE ABSTRACT MACHINE, 12: slices, conversions, texts gone through.
-/
import Derived.Test.YtfknooeebmdfoaaAmOpsH
set_option linter.unusedVariables false
set_option linter.unusedSimpArgs false
set_option linter.unnecessarySimpa false
namespace Go.AM

section
variable {P : Program} {g : Ghost} {st st' : St} {w : World} {ρ ρ' : Operand → Value} {o : Oper} {v : Value}

theorem bound_run {x x' : Value} {most n y : Nat} (code : BoundsCode) (h : bound x most = .ok n) (hx : Rel g x x') (hy : most ≤ y) : (Instr.sliceBound x' y code).run P w = .ok n w ∧ n ≤ most := by
  cases x <;> simp only [bound] at h <;> try (cases h; done)
  rename_i k i
  split at h
  · rename_i hi
    cases h
    rw [hx.int]
    refine ⟨?_, by omega⟩
    have h2 : i ≤ (y : Int) := by omega
    simp [Instr.sliceBound, asIntOf, hi.1, h2]
  · cases h

/-- The bounds that the machine lets by are bounds in the model. -/
theorem bounds_run {b : Bool} {lo hi : Option Operand} {len most cap h l : Nat} (hl : ∀ x, lo = some x → Rel g (ρ x) (ρ' x)) (hh : ∀ x, hi = some x → Rel g (ρ x) (ρ' x)) (h1 : most ≤ cap)
    (e1 : boundO (hi.map ρ) most len = .ok h) (e2 : boundO (lo.map ρ) h 0 = .ok l) :
    (Instr.sliceBounds b len cap (lo.map ρ') (hi.map ρ') none).run P w = .ok (l, h, cap) w ∧ l ≤ h ∧ (hi.isSome = true → h ≤ most) ∧ (hi = none → h = len) := by
  have hr : ∀ code, ((match hi.map ρ', (none : Option Value) with
      | some v, some _ => Instr.sliceBound v cap .slice3B
      | some v, none => Instr.sliceBound v cap code
      | none, none => pure len
      | none, some _ => stuck "Slice: max without high" : Sem Nat)).run P w = .ok h w := by
    intro code
    cases hi with
    | none => simp [boundO] at e1; subst e1; simp
    | some x => simp only [Option.map_some, boundO] at e1; simpa using (bound_run (P := P) (w := w) code e1 (hh x rfl) h1).1
  have hmost : hi.isSome = true → h ≤ most := by
    cases hi with
    | none => simp
    | some x => intro _; simp only [Option.map_some, boundO] at e1; exact (bound_run (P := P) (w := w) .slice3B e1 (hh x rfl) h1).2
  have hlen : hi = none → h = len := by
    rintro rfl
    simp [boundO] at e1
    exact e1.symm
  cases lo with
  | none =>
    simp [boundO] at e2
    subst e2
    refine ⟨?_, Nat.zero_le _, hmost, hlen⟩
    cases hi with
    | none => have := hlen rfl; subst this; simp [Instr.sliceBounds]
    | some x =>
      have := hr (if b then .sliceAcap else .sliceAlen)
      simp at this
      simp [Instr.sliceBounds, this]
  | some y =>
    simp only [Option.map_some, boundO] at e2
    obtain ⟨q1, q2⟩ := bound_run (P := P) (w := w) .sliceB e2 (hl y rfl) (Nat.le_refl _)
    refine ⟨?_, q2, hmost, hlen⟩
    cases hi with
    | none => have := hlen rfl; subst this; simp [Instr.sliceBounds, q1]
    | some x =>
      have := hr (if b then .sliceAcap else .sliceAlen)
      simp at this
      simp [Instr.sliceBounds, this, q1]

theorem did_slice_str {t : TypeId} {x : Operand} {lo hi mx : Option Operand} (ho : o.op = .slice t x lo hi mx) (hu : P.underlying t = some .string) (hx : Rel g (ρ x) (ρ' x))
    (hl : ∀ x, lo = some x → Rel g (ρ x) (ρ' x)) (hh : ∀ x, hi = some x → Rel g (ρ x) (ρ' x)) (hR : Rl P st.ro g st.get w.heap)
    (h : (AOp.slice .str x lo hi mx).run st ρ = .ok (v, st')) : Did P g st w v st' ((execOp ρ' o).run P w) := by
  simp only [AOp.run, Res.bind_eq_ok, Res.pure_eq] at h
  obtain ⟨u, h, h'⟩ := h
  cases h'
  cases hxv : ρ x <;> simp only [hxv, aslice] at h <;> try (cases h; done)
  rename_i s
  simp only [Res.bind_eq_ok, Res.need_eq_ok, Res.pure_eq] at h
  obtain ⟨_, hm, hh', e1, ll, e2, h⟩ := h
  cases h
  have hmn : mx = none := by simpa using hm
  subst hmn
  rw [hxv] at hx
  obtain ⟨hb, _⟩ := bounds_run (P := P) (w := w) (b := false) hl hh (Nat.le_refl _) e1 e2
  have e : (execOp ρ' o).run P w = .ok (.value (.string (s.extract ll hh'))) w := by
    simp [execOp, ho, Instr.sliceAt, underlying, hu, Instr.slice, hx.string, hb]
  rw [e]
  exact Did.same hR (.flat rfl)

theorem did_slice_slice {t e : TypeId} {s : Nat} {x : Operand} {lo hi mx : Option Operand} (ho : o.op = .slice t x lo hi mx) (hu : P.underlying t = some (.slice e)) (hs : szOf P e = some s) (hx : Rel g (ρ x) (ρ' x))
    (hl : ∀ x, lo = some x → Rel g (ρ x) (ρ' x)) (hh : ∀ x, hi = some x → Rel g (ρ x) (ρ' x)) (hmx : ∀ x, mx = some x → Rel g (ρ x) (ρ' x)) (hR : Rl P st.ro g st.get w.heap)
    (h : (AOp.slice (.slice s) x lo hi mx).run st ρ = .ok (v, st')) : Did P g st w v st' ((execOp ρ' o).run P w) := by
  simp only [AOp.run, Res.bind_eq_ok, Res.pure_eq] at h
  obtain ⟨u, h, h'⟩ := h
  cases h'
  unfold aslice at h
  split at h
  · rename_i hk _; cases hk
  · -- nil
    rename_i s' n c hk hxv
    cases hk
    simp only [Res.bind_eq_ok, Res.need_eq_ok, Res.pure_eq] at h
    obtain ⟨_, hn, _, hm, hh', e1, ll, e2, h⟩ := h
    cases h
    have hmn : mx = none := by simpa using hm
    subst hmn
    rw [hxv] at hx
    obtain ⟨_, hq⟩ := hx.toNilSlice
    obtain ⟨hb, hlh, h1, h2⟩ := bounds_run (P := P) (w := w) (b := true) hl hh (Nat.le_refl 0) e1 e2
    have hh0 : hh' = 0 := by
      cases hi with
      | none => exact h2 rfl
      | some _ => have := h1 rfl; omega
    subst hh0
    have hl0 : ll = 0 := by omega
    subst hl0
    have e : (execOp ρ' o).run P w = .ok (.value (.slice none 0 0)) w := by
      simp [execOp, ho, Instr.sliceAt, underlying, hu, Instr.slice, hq, hb, run_sizeOf hs]
    rw [e]
    exact Did.same hR (.nilSlice _)
  · rename_i s' id of n c hk hxv
    cases hk
    simp only [Res.bind_eq_ok, Res.need_eq_ok] at h
    obtain ⟨_, hss, xs, hxs, _, hc2, h⟩ := h
    obtain ⟨hss1, hs0⟩ : c = s ∧ 0 < s := by simpa using hss
    subst hss1
    obtain ⟨hof, hnm⟩ : of ≤ xs.length ∧ n ≤ (xs.length - of) / c := by simpa using hc2
    rw [hxv] at hx
    obtain ⟨G, hG, h0, hcase⟩ := hx.toSlice
    obtain ⟨G', hG', hok, _⟩ := hR.cells hxs
    rw [hG] at hG'; cases hG'
    have hext : xs.length = G.ext := by obtain ⟨_, _, _, _, _, h3, _⟩ := hok; exact h3
    -- the model's slice
    have key : ∃ a cap, ρ' x = .slice (some a) n cap ∧ (xs.length - of) / c ≤ cap ∧ a.spot = none ∧ ((a = ⟨G.blk, G.off + of, none⟩ ∧ n ≤ cap ∧ G.ext ≤ of + cap * c ∧ of + cap * c ≤ G.room) ∨ (n = 0 ∧ cap = 0 ∧ G.ext ≤ of ∧ of ≤ G.room)) := by
      rcases hcase with ⟨cap, hq, hnc, hext', hroom⟩ | ⟨rfl, hext', hroom, a', hq, ha⟩
      · refine ⟨_, cap, hq, ?_, rfl, .inl ⟨rfl, hnc, hext', hroom⟩⟩
        have h1 : (xs.length - of) / c ≤ (cap * c) / c := Nat.div_le_div_right (by omega)
        rwa [Nat.mul_div_cancel _ hs0] at h1
      · refine ⟨a', 0, hq, ?_, ha, .inr ⟨rfl, rfl, hext', hroom⟩⟩
        have : xs.length - of = 0 := by omega
        rw [this]; simp
    obtain ⟨a, cap, hq, hcap, hspot, hcase⟩ := key
    have hdiv : (xs.length - of) / c * c ≤ xs.length - of := Nat.div_mul_le_self _ _
    cases mx with
    | some m =>
      simp only [Option.map_some, Res.bind_eq_ok, Res.need_eq_ok, Res.pure_eq] at h
      obtain ⟨mm, em, hh', e1, _, hhs, ll, e2, h⟩ := h
      cases h
      obtain ⟨r1, r2⟩ := bound_run (P := P) (w := w) .slice3Acap em (hmx m rfl) hcap
      cases hi with
      | none => simp at hhs
      | some y =>
        simp only [Option.map_some, boundO] at e1
        obtain ⟨r3, r4⟩ := bound_run (P := P) (w := w) .slice3B e1 (hh y rfl) (Nat.le_refl _)
        have : ∃ u, (execOp ρ' o).run P w = .ok (.value u) w := by
          cases lo with
          | none => exact ⟨.slice (if mm = 0 then some a else some (a.add (0 * c))) (hh' - 0) (mm - 0), by simp [execOp, ho, Instr.sliceAt, underlying, hu, Instr.slice, hq, Instr.sliceBounds, r1, r3, run_sizeOf hs]⟩
          | some z =>
            simp only [Option.map_some, boundO] at e2
            obtain ⟨r5, r6⟩ := bound_run (P := P) (w := w) .slice3C e2 (hl z rfl) (Nat.le_refl _)
            exact ⟨.slice (if mm = ll then some a else some (a.add (ll * c))) (hh' - ll) (mm - ll), by simp [execOp, ho, Instr.sliceAt, underlying, hu, Instr.slice, hq, Instr.sliceBounds, r1, r3, r5, run_sizeOf hs]⟩
        obtain ⟨u, hu'⟩ := this
        rw [hu']
        exact Did.same hR (.nothing _)
    | none =>
      simp only [Option.map_none, Res.bind_eq_ok, Res.pure_eq] at h
      obtain ⟨hh', e1, ll, e2, h⟩ := h
      cases h
      obtain ⟨hb, hlh, h1, h2⟩ := bounds_run (P := P) (w := w) (b := true) (cap := cap) hl hh hcap e1 e2
      have hhm : hh' ≤ (xs.length - of) / c := by
        cases hi with
        | none => have := h2 rfl; omega
        | some _ => exact h1 rfl
      have e : (execOp ρ' o).run P w = .ok (.value (.slice (if cap = ll then some a else some (a.add (ll * c))) (hh' - ll) (cap - ll))) w := by
        simp [execOp, ho, Instr.sliceAt, underlying, hu, Instr.slice, hq, hb, run_sizeOf hs]
      rw [e]
      refine Did.same hR ?_
      have hllm : ll * c ≤ (xs.length - of) / c * c := Nat.mul_le_mul_right _ (by omega)
      by_cases hcl : cap = ll
      · rw [if_pos hcl]
        have hz : hh' - ll = 0 := by omega
        have hz2 : cap - ll = 0 := by omega
        rw [hz, hz2]
        refine .emptySlice hG hs0 ?_ ?_ hspot
        · rcases hcase with ⟨_, _, hext', _⟩ | ⟨_, _, hext', _⟩
          · subst hcl; exact hext'
          · omega
        · rcases hcase with ⟨_, _, _, hr⟩ | ⟨_, hc0, _, hr⟩
          · subst hcl; exact hr
          · have : ll = 0 := by omega
            subst this; simpa using hr
      · rw [if_neg hcl]
        rcases hcase with ⟨rfl, hnc, hext', hroom⟩ | ⟨_, hc0, _, _⟩
        · rw [Addr.add_lit, Nat.add_assoc]
          have hsplit : cap * c = ll * c + (cap - ll) * c := by rw [← Nat.add_mul]; congr 1; omega
          exact .slice hG hs0 (by omega) (by omega) (by omega)
        · omega
  · rename_i hk _; cases hk
  · cases h

theorem did_slice_arr {t e : TypeId} {s n : Nat} {x : Operand} {lo hi mx : Option Operand} (ho : o.op = .slice t x lo hi mx)
    (hu : P.underlying t = some (.array n e) ∨ ∃ a, P.underlying t = some (.pointer a) ∧ P.underlying a = some (.array n e)) (hs : szOf P e = some s) (hx : Rel g (ρ x) (ρ' x))
    (hl : ∀ x, lo = some x → Rel g (ρ x) (ρ' x)) (hh : ∀ x, hi = some x → Rel g (ρ x) (ρ' x)) (hR : Rl P st.ro g st.get w.heap)
    (h : (AOp.slice (.arr n s) x lo hi mx).run st ρ = .ok (v, st')) : Did P g st w v st' ((execOp ρ' o).run P w) := by
  simp only [AOp.run, Res.bind_eq_ok, Res.pure_eq] at h
  obtain ⟨u, h, h'⟩ := h
  cases h'
  unfold aslice at h
  split at h
  · rename_i hk _; cases hk
  · rename_i hk _; cases hk
  · rename_i hk _; cases hk
  · rename_i n' s' id of hk hxv
    cases hk
    simp only [Res.bind_eq_ok, Res.need_eq_ok, Res.pure_eq] at h
    obtain ⟨_, hm, xs, hxs, _, hc2, hh', e1, ll, e2, h⟩ := h
    cases h
    have hmn : mx = none := by simpa using hm
    subst hmn
    obtain ⟨hlen, hs0⟩ : of + n * s = xs.length ∧ 0 < s := by simpa using hc2
    rw [hxv] at hx
    obtain ⟨G, hG, hq⟩ := hx.toPtr
    obtain ⟨G', hG', hok, _⟩ := hR.cells hxs
    rw [hG] at hG'; cases hG'
    obtain ⟨arr, T, fz, b1, b2, b3, b4, b5, b6⟩ := hok
    obtain ⟨hb, hlh, h1, h2⟩ := bounds_run (P := P) (w := w) (b := false) (cap := n) hl hh (Nat.le_refl n) e1 e2
    have hhm : hh' ≤ n := by
      cases hi with
      | none => have := h2 rfl; omega
      | some _ => exact h1 rfl
    have e : (execOp ρ' o).run P w = .ok (.value (.slice (some (if n = ll then ⟨G.blk, G.off + of, none⟩ else (⟨G.blk, G.off + of, none⟩ : Addr).add (ll * s))) (hh' - ll) (n - ll))) w := by
      rcases hu with hu | ⟨a, hu, ha⟩
      · simp [execOp, ho, Instr.sliceAt, underlying, hu, Instr.sureAddr, hq, hb, run_sizeOf hs]
      · simp [execOp, ho, Instr.sliceAt, underlying, hu, ha, Instr.slice, asAddr, hq, hb, run_sizeOf hs]
    rw [e]
    refine Did.same hR ?_
    by_cases hcl : n = ll
    · rw [if_pos hcl]
      have hz : hh' - ll = 0 := by omega
      have hz2 : n - ll = 0 := by omega
      rw [hz, hz2]
      subst hcl
      exact .emptySlice hG hs0 (by omega) (by omega) rfl
    · rw [if_neg hcl, Addr.add_lit, Nat.add_assoc]
      have hsplit : n * s = ll * s + (n - ll) * s := by rw [← Nat.add_mul]; congr 1; omega
      exact .slice hG hs0 (by omega) (by omega) (by omega)
  · cases h
end
end Go.AM
