/-
  THE ABSTRACT MACHINE, 11: lengths, conversions, copies, slices, numbers' greatest and least, texts gone through.
-/
import Derived.Test.YtfknooeebmdfoaaAmOpsG
set_option linter.unusedVariables false
set_option linter.unusedSimpArgs false
set_option linter.unnecessarySimpa false
namespace Go.AM

section
variable {P : Program} {g : Ghost} {st st' : St} {w : World} {ρ ρ' : Operand → Value} {o : Oper} {v : Value}

theorem did_len {t : TypeId} {k : LenK} {x : Operand} (ho : (execOp ρ' o).run P w = ((Builtin.len_ #[t] o.type #[ρ' x]).run P w).andThen fun v w => .ok (Next.value v) w)
    (hk : match k with
      | .str => P.underlying t = some .string
      | .slice => ∃ e, P.underlying t = some (.slice e)
      | .const n => (∃ e, P.underlying t = some (.array n e)) ∨ (∃ a e, P.underlying t = some (.pointer a) ∧ P.underlying a = some (.array n e))
      | .map => ∃ a b, P.underlying t = some (.map a b))
    (hx : Rel g (ρ x) (ρ' x)) (hR : Rl P st.ro g st.get w.heap)
    (h : (AOp.len k x).run st ρ = .ok (v, st')) : Did P g st w v st' ((execOp ρ' o).run P w) := by
  rw [ho]
  cases k with
  | str =>
    cases hxv : ρ x <;> simp [AOp.run, hxv] at h
    rename_i s
    obtain ⟨rfl, rfl⟩ := h
    rw [hxv] at hx
    have : (Builtin.len_ #[t] o.type #[ρ' x]).run P w = .ok (goInt s.size) w := by simp [Builtin.len_, underlying, hk, hx.string]
    rw [this]
    exact Did.same hR (.flat rfl)
  | slice =>
    obtain ⟨e, hu⟩ := hk
    cases hxv : ρ x <;> simp [AOp.run, hxv] at h
    rename_i a n c
    obtain ⟨rfl, rfl⟩ := h
    rw [hxv] at hx
    have : ∃ a' c', ρ' x = .slice a' n c' := by
      generalize ρ' x = q at hx
      cases hx with
      | flat h => simp [AM.flat] at h
      | nilSlice s => exact ⟨_, _, rfl⟩
      | slice hG h0 hn he hr => exact ⟨_, _, rfl⟩
      | emptySlice hG h0 he hr ha => exact ⟨_, _, rfl⟩
    obtain ⟨a', c', hq⟩ := this
    have : (Builtin.len_ #[t] o.type #[ρ' x]).run P w = .ok (goInt n) w := by simp [Builtin.len_, underlying, hu, hq]
    rw [this]
    exact Did.same hR (.flat rfl)
  | const n =>
    simp [AOp.run] at h
    obtain ⟨rfl, rfl⟩ := h
    have : (Builtin.len_ #[t] o.type #[ρ' x]).run P w = .ok (goInt n) w := by
      rcases hk with ⟨e, hu⟩ | ⟨a, e, hu, ha⟩
      · simp [Builtin.len_, underlying, hu]
      · simp [Builtin.len_, underlying, hu, ha]
    rw [this]
    exact Did.same hR (.flat rfl)
  | map =>
    obtain ⟨a, b, hu⟩ := hk
    cases hxv : ρ x <;> simp only [AOp.run, hxv] at h <;> try (cases h; done)
    rename_i r
    rw [hxv] at hx
    cases r with
    | none =>
      cases h
      have : (Builtin.len_ #[t] o.type #[ρ' x]).run P w = .ok (goInt 0) w := by simp [Builtin.len_, underlying, hu, hx.nilMap]
      rw [this]
      exact Did.same hR (.flat rfl)
    | some r =>
      simp only [Res.bind_eq_ok, Res.pure_eq] at h
      obtain ⟨es, hes, h⟩ := h
      cases h
      obtain ⟨G, hG, hq⟩ := hx.toMap
      obtain ⟨G', ents, clock, hG', _, hb, hm⟩ := hR.map hes
      rw [hG] at hG'; cases hG'
      have hl : es.length = ents.size := by simpa using hm.1
      have : (Builtin.len_ #[t] o.type #[ρ' x]).run P w = .ok (goInt es.length) w := by simp [Builtin.len_, underlying, hu, hq, run_getObj_map hb, hl]
      rw [this]
      exact Did.same hR (.flat rfl)

theorem minmaxL_run {mx : Bool} : ∀ (ys ys' : List Value) (x x' z : Value), minmaxL mx x ys = .ok z → Rel g x x' → RelL g ys ys' →
    ∃ z', (ys'.foldlM (if mx then Builtin.max2 else Builtin.min2) x').run P w = .ok z' w ∧ Rel g z z'
  | [], ys', x, x', z, h, hx, hl => by
    have : ys' = [] := by have := hl.1; simpa using this.symm
    subst this
    simp [minmaxL] at h
    subst h
    exact ⟨x', by simp, hx⟩
  | y :: ys, ys', x, x', z, h, hx, hl => by
    cases ys' with
    | nil => have := hl.1; simp at this
    | cons y' ys' =>
      simp only [minmaxL, Res.bind_eq_ok] at h
      obtain ⟨u, hu, h⟩ := h
      obtain ⟨h1, h2⟩ := minmax2_run (P := P) (w := w) hu hx hl.head
      obtain ⟨z', h3, h4⟩ := minmaxL_run ys ys' u u z h h2 hl.tail
      refine ⟨z', ?_, h4⟩
      rw [List.foldlM_cons]
      have h1' : ((if mx then Builtin.max2 else Builtin.min2) x' y').run P w = .ok u w := by cases mx <;> exact h1
      simp only [Sem.run_bind, h1', Result.andThen_ok, h3]

theorem did_minmax {mx : Bool} {x : Operand} {ys : List Operand} (ho : (execOp ρ' o).run P w = (((ys.map ρ').foldlM (if mx then Builtin.max2 else Builtin.min2) (ρ' x)).run P w).andThen fun v w => .ok (Next.value v) w)
    (hx : Rel g (ρ x) (ρ' x)) (hy : ∀ y ∈ ys, Rel g (ρ y) (ρ' y)) (hR : Rl P st.ro g st.get w.heap)
    (h : (AOp.minmax mx x ys).run st ρ = .ok (v, st')) : Did P g st w v st' ((execOp ρ' o).run P w) := by
  simp only [AOp.run, Res.bind_eq_ok, Res.pure_eq] at h
  obtain ⟨z, hz, h⟩ := h
  cases h
  obtain ⟨z', h1, h2⟩ := minmaxL_run (P := P) (w := w) _ _ _ _ _ hz hx (relL_map hy)
  rw [ho, h1]
  exact Did.same hR h2

theorem did_copy {t u e : TypeId} {s : Nat} {x y : Operand} (ho : (execOp ρ' o).run P w = ((Builtin.copy_ #[t, u] o.type #[ρ' x, ρ' y]).run P w).andThen fun v w => .ok (Next.value v) w)
    (ht : P.underlying t = some (.slice e)) (hs : szOf P e = some s) (hx : Rel g (ρ x) (ρ' x)) (hy : Rel g (ρ y) (ρ' y)) (hR : Rl P st.ro g st.get w.heap)
    (h : (AOp.copy s x y).run st ρ = .ok (v, st')) : Did P g st w v st' ((execOp ρ' o).run P w) := by
  rw [ho]
  simp only [AOp.run] at h
  unfold acopy at h
  split at h
  case h_2 => cases h
  rename_i base n s' hxv
  rw [hxv] at hx
  simp only [Res.bind_eq_ok, Res.need_eq_ok] at h
  obtain ⟨m, hm, new, hnew, _, hnl, h⟩ := h
  have hlen := lenL_run (P := P) (w := w) hy hm
  obtain ⟨new', hfn, hrn⟩ := firstL_run (P := P) hy hm (Nat.min_le_left _ _) hnew hR
  have hnl' : new.length = Nat.min m n * s := by simpa using hnl
  cases base with
  | none =>
    simp only [Res.pure_eq] at h
    cases h
    obtain ⟨rfl, hq⟩ := hx.toNilSlice
    rw [hq]
    have : (Builtin.copy_ #[t, u] o.type #[.slice none 0 0, ρ' y]).run P w = .ok (goInt (Nat.min m 0)) w := by
      simp [Builtin.copy_, underlying, ht, hlen, run_sizeOf hs]
      have h0 : Nat.min m 0 = 0 := Nat.min_eq_right (Nat.zero_le _)
      simp at hfn
      simp [hfn]
    rw [this]
    exact Did.same hR (.flat rfl)
  | some a =>
    obtain ⟨id, of, spot⟩ := a
    cases spot with
    | some _ => cases h
    | none =>
      simp only [Res.bind_eq_ok, Res.need_eq_ok, Res.pure_eq] at h
      obtain ⟨_, hss, st2, hst2, h⟩ := h
      cases h
      obtain ⟨G, hG, h0, hcase⟩ := hx.toSlice
      obtain ⟨w1, hw1, hstep, hnx, hro2⟩ := storeN_run hst2 hrn hG hR
      rcases hcase with ⟨c, hq, _⟩ | ⟨rfl, _, _, a', hq, _⟩
      · rw [hq]
        have : (Builtin.copy_ #[t, u] o.type #[.slice (some ⟨G.blk, G.off + of, none⟩) n c, ρ' y]).run P w = .ok (goInt (Nat.min m n)) w1 := by
          simp [Builtin.copy_, underlying, ht, hlen, run_sizeOf hs, hfn, hw1]
        rw [this]
        exact ⟨_, w1, g, .inl rfl, .flat rfl, hnx ▸ hstep _ _⟩
      · rw [hq]
        have h0' : Nat.min m 0 = 0 := Nat.min_eq_right (Nat.zero_le _)
        rw [h0'] at hnl'
        simp at hfn
        have hn0 : new' = [] := by have := hrn.1; rw [hnl'] at this; simpa using this.symm
        subst hn0
        have hw : w1 = w := by simpa [storeCells] using hw1.symm
        have : (Builtin.copy_ #[t, u] o.type #[.slice (some a') 0 0, ρ' y]).run P w = .ok (goInt (Nat.min m 0)) w1 := by
          simp [Builtin.copy_, underlying, ht, hlen, run_sizeOf hs]
          rw [hw]
          simp [hfn, storeCells]
        rw [this]
        exact ⟨_, w1, g, .inl rfl, .flat rfl, hnx ▸ hstep _ _⟩

theorem did_clear {t e : TypeId} {z : Value} {x : Operand} (ho : (execOp ρ' o).run P w = ((Builtin.clear_ #[t] o.type #[ρ' x]).run P w).andThen fun v w => .ok (Next.value v) w)
    (ht : P.underlying t = some (.slice e)) (hz : zeroOf P e = some z) (hx : Rel g (ρ x) (ρ' x)) (hR : Rl P st.ro g st.get w.heap)
    (h : (AOp.clear z.cells.toList x).run st ρ = .ok (v, st')) : Did P g st w v st' ((execOp ρ' o).run P w) := by
  rw [ho]
  obtain ⟨iz, hiz, hzz, hzc, hzt⟩ := zeroOf_info hz
  simp only [AOp.run] at h
  unfold aclear at h
  split at h
  · rename_i n s hxv
    cases h
    rw [hxv] at hx
    obtain ⟨rfl, hq⟩ := hx.toNilSlice
    have : (Builtin.clear_ #[t] o.type #[ρ' x]).run P w = .ok (.tuple #[]) w := by simp [Builtin.clear_, underlying, ht, hq]
    rw [this]
    exact Did.same hR (.nothing _)
  · rename_i id of n s hxv
    rw [hxv] at hx
    obtain ⟨G, hG, h0, hcase⟩ := hx.toSlice
    split at h
    · rename_i hn
      subst hn
      cases h
      have : ∃ a c, ρ' x = .slice (some a) 0 c := by
        rcases hcase with ⟨c, hq, _⟩ | ⟨_, _, _, a', hq, _⟩
        · exact ⟨_, _, hq⟩
        · exact ⟨_, _, hq⟩
      obtain ⟨a, c, hq⟩ := this
      have : (Builtin.clear_ #[t] o.type #[ρ' x]).run P w = .ok (.tuple #[]) w := by simp [Builtin.clear_, underlying, ht, hq]
      rw [this]
      exact Did.same hR (.nothing _)
    · rename_i hn
      simp only [Res.bind_eq_ok, Res.need_eq_ok, Res.pure_eq] at h
      obtain ⟨_, hss, st2, hst2, h⟩ := h
      cases h
      have hzr := RelL.zeros (RelL.const (g := g) hzc hzt) n
      obtain ⟨w1, hw1, hstep, hnx, hro2⟩ := storeN_run hst2 hzr hG hR
      rcases hcase with ⟨c, hq, _⟩ | ⟨h, _⟩
      · obtain ⟨k, rfl⟩ : ∃ k, n = k + 1 := ⟨n - 1, by omega⟩
        have hzc' : (Builtin.zeroCells z.cells (k + 1)).toList = zerosL z.cells.toList (k + 1) := by
          rw [← zeros_eq]; rfl
        have : (Builtin.clear_ #[t] o.type #[ρ' x]).run P w = .ok (.tuple #[]) w1 := by simp [Builtin.clear_, underlying, ht, hq, run_zeroOf hz, hzc', hw1]
        rw [this]
        exact ⟨_, w1, g, .inl rfl, .nothing _, hnx ▸ hstep _ _⟩
      · omega
  · cases h

theorem did_make {t e : TypeId} {s b : Nat} {z : Value} {l c : Operand} (ho : o.op = .makeSlice t l c) (hu : P.underlying t = some (.slice e)) (hs : szOf P e = some s) (hb : bytesOf P e = some b) (hz : zeroOf P e = some z)
    (hzs : z.cells.size = s) (hl : Rel g (ρ l) (ρ' l)) (hc : Rel g (ρ c) (ρ' c)) (hR : Rl P st.ro g st.get w.heap) (hf : ∀ id, st.next ≤ id → id < st'.next → g id = none)
    (h : (AOp.mkSlice s b z.cells.toList l c).run st ρ = .ok (v, st')) : Did P g st w v st' ((execOp ρ' o).run P w) := by
  obtain ⟨i, hi, hsz, hs0⟩ := szOf_info hs
  have hib : i.bytes = b := by simpa [bytesOf, hi] using hb
  obtain ⟨iz, hiz, hzz, hzc, hzt⟩ := zeroOf_info hz
  rw [hi] at hiz; cases hiz
  simp only [AOp.run] at h
  split at h
  · rename_i n m hlv hcv
    simp only [Res.bind_eq_ok, Res.need_eq_ok, Res.pure_eq] at h
    obtain ⟨_, hcond, h⟩ := h
    cases h
    rw [hlv] at hl
    rw [hcv] at hc
    obtain ⟨h0, hlc, hbytes, hmost, _⟩ : 0 ≤ n ∧ n ≤ m ∧ m * b ≤ mostBytes ∧ m ≤ mostBytes ∧ z.cells.toList.length = s := by simpa using hcond
    have hmb : (mostBytes : Int) = 70368744177664 := rfl
    obtain ⟨m', rfl⟩ := Int.eq_ofNat_of_zero_le (show 0 ≤ m by omega)
    obtain ⟨n', rfl⟩ := Int.eq_ofNat_of_zero_le h0
    have hrun := run_make (P := P) w t e i z hu hi hzz .i64 .i64 (n' : Int) (m' : Int) h0 hlc (by rw [hib, Int.mul_comm]; omega) (by omega)
    have e0 : (execOp ρ' o).run P w = .ok (.value (.slice (some ⟨w.heap.size, 0, none⟩) n' m')) (w.alloc (.cells (madeCells z.cells (m' * s)) e)) := by
      rw [hsz] at hrun
      simp only [execOp, ho, hl.int, hc.int, Sem.run_bind, hrun]
      simp
    rw [e0]
    have hz0 : (madeCells z.cells (m' * s)).toList = zerosL z.cells.toList m' := by
      rw [← hzs, ← zeros_eq]; rfl
    simp only [Int.toNat_natCast] at hf ⊢
    have hst := did_row (e := e) (c := madeCells z.cells (m' * s)) hR (hf st.next (Nat.le_refl _) (by simp [St.alloc])) (RelL.zeros (RelL.const (g := g) hzc hzt) m') hz0
    have hlen : (zerosL z.cells.toList m').length = m' * s := by rw [zerosL_length]; simp [hzs]
    refine ⟨_, _, _, .inl rfl, ?_, hst⟩
    have hnm : n' ≤ m' := by omega
    simpa using Rel.slice (g := g.put st.next ⟨w.heap.size, 0, (zerosL z.cells.toList m').length, (zerosL z.cells.toList m').length⟩) (id := st.next) (o := 0) (n := n') (s := s) (c := m') (Ghost.put_same _ _ _) (by omega) hnm (by simp [hlen]) (by simp [hlen])
  · cases h
end
end Go.AM
