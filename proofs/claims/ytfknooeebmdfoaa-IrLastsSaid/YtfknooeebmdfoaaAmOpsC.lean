/-
  THE ABSTRACT MACHINE, 6: append, copy, clear, make, struct literals.
-/
import Derived.Test.YtfknooeebmdfoaaAmOpsB
import Derived.Laws.MakeOwn
set_option linter.unusedVariables false
set_option linter.unusedSimpArgs false
set_option linter.unnecessarySimpa false
namespace Go.AM

section
variable {P : Program} {g : Ghost} {st st' : St} {w : World} {ρ ρ' : Operand → Value} {o : Oper} {v : Value}

theorem fillL_length : ∀ (l : List (Nat × Nat × Value)) (zs cs : List Value), fillL zs l = .ok cs → cs.length = zs.length := by
  intro l
  induction l with
  | nil => intro zs cs h; simp [fillL] at h; rw [h]
  | cons p l ih =>
    intro zs cs h
    obtain ⟨of, m, u⟩ := p
    simp only [fillL, Res.bind_eq_ok, Res.need_eq_ok] at h
    obtain ⟨_, _, _, h1, _, h2, h⟩ := h
    rw [ih _ _ h, splice_length]
    simp at h1 h2 ⊢
    omega

theorem compParts_rel {places : List (Nat × Nat)} : ∀ {ps : List (Nat × Operand)} {l : List (Nat × Nat × Operand)}, compParts places ps = some l → (∀ x ∈ ps.map (·.2), Rel g (ρ x) (ρ' x)) →
    All2 (fun (p : Nat × Nat × Value) (q : Nat × Value) => places[q.1]? = some (p.1, p.2.1) ∧ Rel g p.2.2 q.2) (l.map fun (p : Nat × Nat × Operand) => (p.1, p.2.1, ρ p.2.2)) (ps.map fun (p : Nat × Operand) => (p.1, ρ' p.2))
  | [], l, h, _ => by
    simp [compParts] at h
    subst h
    exact .nil
  | (i, x) :: ps, l, h, hx => by
    simp only [compParts, List.mapM_cons, Option.bind_eq_bind, Option.bind_eq_some_iff, Option.map_eq_some_iff, Option.pure_def] at h
    obtain ⟨q, ⟨⟨of, n⟩, hp, rfl⟩, rest, hrest, h⟩ := h
    cases h
    exact .cons ⟨hp, hx x (by simp)⟩ (compParts_rel hrest fun y hy => hx y (by simp at hy ⊢; exact .inr hy))

theorem places_info : ∀ {fs : List Field} {places : List (Nat × Nat)}, fs.mapM (fun f => (szOf P f.type).map fun n => (f.offset, n)) = some places →
    fs.mapM (fun f => (P.info? f.type).map fun i => (f.offset, i.size)) = some places
  | [], places, h => by simpa using h
  | f :: fs, places, h => by
    simp only [List.mapM_cons, Option.bind_eq_bind, Option.bind_eq_some_iff, Option.map_eq_some_iff, Option.pure_def] at h ⊢
    obtain ⟨q, ⟨n, hn, rfl⟩, rest, hrest, h⟩ := h
    obtain ⟨i, hi, rfl, _⟩ := szOf_info hn
    exact ⟨_, ⟨i, hi, rfl⟩, rest, places_info hrest, h⟩

theorem did_build_struct {t : TypeId} {fs : Array Field} {z : Value} {places : List (Nat × Nat)} {ps : Array (Nat × Operand)} {l : List (Nat × Nat × Operand)} (ho : o.op = .build t ps)
    (hu : P.underlying t = some (.struct fs)) (hz : zeroOf P t = some z) (hpl : fs.toList.mapM (fun f => (szOf P f.type).map fun n => (f.offset, n)) = some places) (hl : compParts places ps.toList = some l)
    (hx : ∀ x ∈ ps.toList.map (·.2), Rel g (ρ x) (ρ' x)) (hR : Rl P st.ro g st.get w.heap)
    (h : (AOp.build z.cells.toList l).run st ρ = .ok (v, st')) : Did P g st w v st' ((execOp ρ' o).run P w) := by
  simp only [AOp.run, Res.bind_eq_ok, Res.pure_eq] at h
  obtain ⟨cs, hcs, h⟩ := h
  cases h
  obtain ⟨i, hi, hzz, hc, ht⟩ := zeroOf_info hz
  obtain ⟨cs', h1, h2⟩ := fillL_run (g := g) (fun i => places[i]?) _ _ _ cs z.cells (compParts_rel hl hx) (RelL.const hc ht) hcs
  have hb : P.built t (ps.map fun (p : Nat × Operand) => (p.1, ρ' p.2)).toList = some cs' := by
    have h1' : Instr.fill (fun x => places.toArray[x]?) z.cells (ps.toList.map fun (p : Nat × Operand) => (p.1, ρ' p.2)) = some cs' := by
      rw [← h1]; congr 1; funext x; simp
    simp only [Program.built, hi, hu, hzz, places_info hpl, Array.toList_map]
    exact h1'
  have e : (execOp ρ' o).run P w = .ok (.value (.agg cs')) w := by
    simp only [execOp, ho, Sem.run_bind]
    rw [run_build (P := P) w t _ cs' hb]
    rfl
  rw [e]
  have := Rel.agg_of h2
  exact Did.same hR (by simpa using this)

theorem did_build_array {t e : TypeId} {n s : Nat} {z : Value} {ps : Array (Nat × Operand)} (ho : o.op = .build t ps)
    (hu : P.underlying t = some (.array n e)) (hz : zeroOf P t = some z) (hs : szOf P e = some s)
    (hx : ∀ x ∈ ps.toList.map (·.2), Rel g (ρ x) (ρ' x)) (hR : Rl P st.ro g st.get w.heap)
    (h : (AOp.build z.cells.toList (rowParts s ps.toList)).run st ρ = .ok (v, st')) : Did P g st w v st' ((execOp ρ' o).run P w) := by
  simp only [AOp.run, Res.bind_eq_ok, Res.pure_eq] at h
  obtain ⟨cs, hcs, h⟩ := h
  cases h
  obtain ⟨i, hi, hzz, hc, ht⟩ := zeroOf_info hz
  obtain ⟨ie, hie, rfl, _⟩ := szOf_info hs
  obtain ⟨cs', h1, h2⟩ := fillL_run (g := g) (fun i => some (i * ie.size, ie.size)) _ (ps.map fun (p : Nat × Operand) => (p.1, ρ' p.2)).toList _ cs z.cells (rowParts_rel hx) (RelL.const hc ht) hcs
  have hb : P.built t (ps.map fun (p : Nat × Operand) => (p.1, ρ' p.2)).toList = some cs' := by
    simp only [Program.built, hi, hu, hzz, hie]
    exact h1
  have e : (execOp ρ' o).run P w = .ok (.value (.agg cs')) w := by
    simp only [execOp, ho, Sem.run_bind]
    rw [run_build (P := P) w t _ cs' hb]
    rfl
  rw [e]
  have := Rel.agg_of h2
  exact Did.same hR (by simpa using this)

/-! ### What is appended, copied -/

theorem bytes_rel (t : ByteArray) : RelL g (t.data.toList.map fun b => Value.int .u8 b.toNat) (t.data.toList.map fun b => Value.int .u8 b.toNat) :=
  RelL.of_flat fun v hv => by
    obtain ⟨b, _, rfl⟩ := List.mem_map.1 hv
    exact .flat rfl

theorem lenL_run {y y' : Value} {m : Nat} (hy : Rel g y y') (h : lenL y = .ok m) : (Builtin.lenOf y').run P w = .ok m w := by
  cases y with
  | slice a n c =>
    have hnm : n = m := by simpa [lenL] using h
    clear h
    subst hnm
    cases hy with
    | flat h => simp [AM.flat] at h
    | nilSlice s => simp [Builtin.lenOf]
    | slice hG h0 hn he hr => simp [Builtin.lenOf]
    | emptySlice hG h0 he hr ha => simp [Builtin.lenOf]
  | string t =>
    simp only [lenL] at h
    cases h
    rw [hy.string]
    simp [Builtin.lenOf]
  | _ => simp [lenL] at h

theorem firstL_run {s k m : Nat} {y y' : Value} {l : List Value} (hy : Rel g y y') (hm : lenL y = .ok m) (hk : k ≤ m) (h : firstL st s k y = .ok l) (hR : Rl P st.ro g st.get w.heap) :
    ∃ l' : List Value, (Builtin.firstCells s k y').run P w = .ok l'.toArray w ∧ RelL g l l' := by
  unfold firstL at h
  split at h
  · rename_i b of n s'
    simp only [lenL] at hm
    cases hm
    simp only [Res.bind_eq_ok, Res.need_eq_ok] at h
    obtain ⟨_, hs, h⟩ := h
    obtain ⟨xs, hxs, hle, rfl⟩ := loadN_ok h
    obtain ⟨G, hG, h0, hc | hc⟩ := hy.toSlice
    · obtain ⟨c, rfl, _⟩ := hc
      obtain ⟨G', hG', hok, _⟩ := hR.cells hxs
      rw [hG] at hG'; cases hG'
      obtain ⟨l', hl', hrel, hcell⟩ := cells_at (w := w) hok hle
      refine ⟨l', ?_, hrel⟩
      have := run_loadCells_list (P := P) w _ l' hcell
      rw [hl'] at this
      simpa [Builtin.firstCells] using this
    · obtain ⟨rfl, _, _, a, rfl, _⟩ := hc
      have hk0 : k = 0 := by omega
      subst hk0
      refine ⟨[], by simp [Builtin.firstCells, loadCells, loadCellsFrom], ?_⟩
      simp
      exact .nil g
  · cases h
    obtain ⟨_, rfl⟩ := hy.toNilSlice
    exact ⟨[], by simp [Builtin.firstCells], .nil g⟩
  · rename_i t
    cases h
    rw [hy.string]
    refine ⟨_, ?_, bytes_rel (t.extract 0 k)⟩
    simp [Builtin.firstCells]
    apply Array.ext'
    simp
  · cases h

/-! ### A block changes its name -/

theorem Step.move {ro : Nat} {H : AHeap} {w' : World} (h : Rl P ro g H w.heap) {id nid : Nat} {o o' : AObj} {G G' : Gh} (hid : H id = some o) (hl : o.live = true) (hro : ro ≤ id) (hro' : ro ≤ nid) (hG : g id = some G)
    (hn : g nid = none) (hb : G'.blk = G.blk) (hsz : w'.heap.size = w.heap.size) (hw : ∀ B, B ≠ G.blk → w'.heap[B]? = w.heap[B]?) (os : w'.os = w.os) (tape : w'.tape = w.tape) (output : w'.output = w.output)
    (ho : ObjOk P ro (g.put nid G') w'.heap nid G' o') : Step P ro g H w (g.put nid G') (upd (upd H id .dead) nid o') w' nid (nid + 1) := by
  have hle := Ghost.le_put hn G'
  have hne : nid ≠ id := fun e => by rw [e, hG] at hn; cases hn
  have aux : ∀ {j p}, upd (upd H id .dead) nid o' j = some p → p.live = true → j = nid ∧ p = o' ∨ j ≠ nid ∧ j ≠ id ∧ H j = some p := by
    intro j p hj hp
    by_cases e : j = nid
    · subst e; rw [upd_same] at hj; cases hj; exact .inl ⟨rfl, rfl⟩
    · rw [upd_ne _ _ e] at hj
      by_cases e2 : j = id
      · subst e2; rw [upd_same] at hj; cases hj; simp [AObj.live] at hp
      · rw [upd_ne _ _ e2] at hj; exact .inr ⟨e, e2, hj⟩
  refine ⟨⟨?_, ?_, fun i hi => ?_⟩, hle, fun j hj => g.put_ne G' (by omega), by omega, os, tape, output, ?_, ?_⟩
  · intro j p hj hlp
    rcases aux hj hlp with ⟨e1, e2⟩ | ⟨e1, e2, hj2⟩
    · rw [e1, e2]; exact ⟨G', g.put_same _ G', ho⟩
    · obtain ⟨K, hK, hok⟩ := h.obj j p hj2 hlp
      refine ⟨K, hle _ _ hK, (hok.mono hle).block (hw _ fun eb => e2 ?_)⟩
      exact (h.inj id j o p G K hid hl hj2 hlp hro hG hK eb.symm).symm
  · intro j j' p p' K K' hj hlj hj' hlj' hroj hK hK' e
    rcases aux hj hlj with ⟨e1, _⟩ | ⟨e1, e2, hj2⟩
    · rcases aux hj' hlj' with ⟨e1', _⟩ | ⟨e1', e2', hj2'⟩
      · omega
      · rw [e1, Ghost.put_same] at hK; cases hK
        rw [Ghost.put_ne g G' e1'] at hK'
        exact absurd (h.inj id j' o p' G K' hid hl hj2' hlj' hro hG hK' (by omega)).symm e2'
    · rw [Ghost.put_ne g G' e1] at hK
      rcases aux hj' hlj' with ⟨e1', _⟩ | ⟨e1', e2', hj2'⟩
      · rw [e1', Ghost.put_same] at hK'; cases hK'
        exact absurd (h.inj id j o p G K hid hl hj2 hlj hro hG hK (by omega)).symm e2
      · rw [Ghost.put_ne g G' e1'] at hK'
        exact h.inj j j' p p' K K' hj2 hlj hj2' hlj' hroj hK hK' e
  · obtain ⟨K, a, b, c⟩ := h.glob i hi
    exact ⟨K, hle _ _ a, b, c⟩
  · intro B hB hnot
    exact hw B fun e => hnot ⟨id, o, G, hid, hl, hro, hG, e.symm⟩
  · rintro B ⟨j, p, K, hj, hlp, hroj, hK, e⟩
    rcases aux hj hlp with ⟨e1, _⟩ | ⟨e1, e2, hj2⟩
    · rw [e1, Ghost.put_same] at hK; cases hK
      exact .inl ⟨id, o, G, hid, hl, hro, hG, by omega⟩
    · rw [Ghost.put_ne g G' e1] at hK
      exact .inl ⟨j, p, K, hj2, hlp, hroj, hK, e⟩

theorem Step.kill {ro : Nat} {H : AHeap} (h : Rl P ro g H w.heap) {id : Nat} {o : AObj} {G : Gh} (hid : H id = some o) (hl : o.live = true) (hro : ro ≤ id) (hG : g id = some G) (lo hi : Nat) :
    Step P ro g H w g (upd H id .dead) w lo hi :=
  Step.change h hid hl hro hG rfl (fun _ _ => rfl) rfl rfl rfl (fun h => by simp [AObj.live] at h) lo hi

end
end Go.AM
