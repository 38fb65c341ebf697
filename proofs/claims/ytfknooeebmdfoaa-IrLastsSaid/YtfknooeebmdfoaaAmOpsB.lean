/-
  THE ABSTRACT MACHINE, 5: the operations that write: store, build, append, copy, clear.
-/
import Derived.Test.YtfknooeebmdfoaaAmOps
set_option linter.unusedVariables false
set_option linter.unusedSimpArgs false
set_option linter.unnecessarySimpa false
namespace Go.AM

section
variable {P : Program} {g : Ghost} {st st' : St} {w : World} {ρ ρ' : Operand → Value} {o : Oper} {v : Value}

theorem run_storeCells_fz (g o : Nat) (t : TypeId) (fz : Nat × Nat) : ∀ (vs : List Value) (i : Nat) (cur : Array Value) (w : World), w.heap[g]? = some (.cells cur t fz) → o + i + vs.length ≤ cur.size →
    (∀ j, o + i ≤ j → j < o + i + vs.length → (fz.1 ≤ j && j < fz.2) = false) → (∀ v ∈ vs, v.oneCell' = true) →
    (storeCells ⟨g, o, none⟩ vs i).run P w = .ok () (w.setRow g (cur.toList.take (o + i) ++ vs ++ cur.toList.drop (o + i + vs.length)).toArray)
  | [], i, cur, w, hg, _, _, _ => by
    simp only [storeCells, List.append_nil, List.length_nil, Nat.add_zero, List.take_append_drop, Array.toArray_toList]
    rw [setRow_self w g cur t fz hg]
    rfl
  | v :: rest, i, cur, w, hg, hl, hz, h1 => by
    have hi : o + i < cur.size := by simp at hl; omega
    have hadd : (⟨g, o, none⟩ : Addr).add i = ⟨g, o + i, none⟩ := by unfold Addr.add; split <;> simp_all
    have hcell : w.cell? ⟨g, o + i, none⟩ = some cur[o + i] := by simp [World.cell?, hg, hi]
    have hfro : w.frozen? ⟨g, o + i, none⟩ = false := by
      have := hz (o + i) (Nat.le_refl _) (by simp)
      simpa [World.frozen?, hg] using this
    have hst : (store ((⟨g, o, none⟩ : Addr).add i) v).run P w = .ok () (w.setRow g (cur.setIfInBounds (o + i) v)) := by
      rw [hadd, run_store P w _ v _ (h1 v (by simp)), hcell]
      simp [hfro, setCell_eq_setRow w g (o + i) cur t fz v hg]
    have ih := run_storeCells_fz g o t fz rest (i + 1) (cur.setIfInBounds (o + i) v) (w.setRow g (cur.setIfInBounds (o + i) v)) (setRow_heap w g cur _ t _ hg) (by simp at hl ⊢; omega)
      (fun j h1 h2 => hz j (by omega) (by simp; omega)) (fun x hx => h1 x (by simp [hx]))
    simp only [storeCells, Sem.run_bind, hst, Result.andThen_ok, ih, setRow_setRow]
    congr 3
    have e := list_seg_step cur.toList (o + i) v rest (by simp at hl ⊢; omega)
    simpa [Array.toList_setIfInBounds, Nat.add_assoc] using e

theorem RelL.oneCells {vs vs' : List Value} (h : RelL g vs vs') (hk : vs.all cellOk = true) : ∀ v ∈ vs', v.oneCell' = true := by
  intro v hv
  obtain ⟨i, hi⟩ := List.mem_iff_getElem?.1 hv
  have hlt : i < vs.length := by
    rw [h.1]
    rcases Nat.lt_or_ge i vs'.length with h | h
    · exact h
    · rw [List.getElem?_eq_none h] at hi; cases hi
  have h1 : vs[i]? = some vs[i] := by simp [hlt]
  exact (h.2 i _ _ h1 hi).cellOk (List.all_eq_true.1 hk _ (List.getElem_mem hlt))

theorem splice_length {xs vs : List Value} {of : Nat} (h : of + vs.length ≤ xs.length) : (splice xs of vs).length = xs.length := by
  simp [splice]; omega

theorem splice_get {xs vs : List Value} {of : Nat} (h : of + vs.length ≤ xs.length) (i : Nat) :
    (splice xs of vs)[i]? = if i < of then xs[i]? else if i < of + vs.length then vs[i - of]? else xs[i]? := by
  unfold splice
  rw [List.getElem?_append, List.length_take]
  have hm : min of xs.length = of := by omega
  rw [hm]
  split
  · rename_i hi; rw [List.getElem?_take, if_pos hi]
  · rename_i hi
    rw [List.getElem?_append]
    split
    · rename_i h2; rw [if_pos (by omega)]
    · rename_i h2
      rw [if_neg (by omega), List.getElem?_drop]
      congr 1
      omega

theorem RelL.splice {xs xs' vs vs' : List Value} {of : Nat} (h : RelL g xs xs') (k : RelL g vs vs') : RelL g (splice xs of vs) (splice xs' of vs') := by
  unfold AM.splice
  rw [← k.1]
  exact (h.take of).append (k.append (h.drop _))

/-- A list of cells, laid over a part of an array. -/
theorem splice_seg {arr : List Value} {off ext of : Nat} {vs : List Value} (h : of + vs.length ≤ ext) (h2 : off + ext ≤ arr.length) :
    ((splice arr (off + of) vs).drop off).take ext = splice ((arr.drop off).take ext) of vs := by
  apply List.ext_getElem?
  intro i
  rw [List.getElem?_take, List.getElem?_drop, splice_get (by omega), splice_get (by simp; omega)]
  by_cases hi : i < ext
  · rw [if_pos hi]
    by_cases h3 : i < of
    · rw [if_pos (by omega), if_pos h3, List.getElem?_take, if_pos hi, List.getElem?_drop]
    · rw [if_neg (by omega), if_neg h3]
      by_cases h4 : i < of + vs.length
      · rw [if_pos (by omega), if_pos h4]; congr 1; omega
      · rw [if_neg (by omega), if_neg h4, List.getElem?_take, if_pos hi, List.getElem?_drop]
  · rw [if_neg hi, if_neg (by omega), if_neg (by omega), List.getElem?_take, if_neg hi]

theorem storeN_ok {b of : Nat} {vs : List Value} (h : st.storeN b of vs = .ok st') : ∃ xs, st.get b = some (.cells xs) ∧ st.ro ≤ b ∧ of + vs.length ≤ xs.length ∧ vs.all cellOk = true ∧ st' = st.put b (.cells (splice xs of vs)) := by
  simp only [St.storeN, Res.bind_eq_ok, Res.need_eq_ok, Res.pure_eq] at h
  obtain ⟨xs, hxs, _, h1, _, h2, _, h3, h⟩ := h
  cases h
  unfold St.cells at hxs
  split at hxs
  · rename_i ys hy
    cases hxs
    exact ⟨xs, hy, by simpa using h1, by simpa using h2, h3, rfl⟩
  · cases hxs

theorem storeN_run {b of : Nat} {vs vs' : List Value} {G : Gh} (h : st.storeN b of vs = .ok st') (hv : RelL g vs vs') (hG : g b = some G) (hR : Rl P st.ro g st.get w.heap) :
    ∃ w', (storeCells ⟨G.blk, G.off + of, none⟩ vs' 0).run P w = .ok () w' ∧ (∀ lo hi, Step P st.ro g st.get w g st'.get w' lo hi) ∧ st'.next = st.next ∧ st'.ro = st.ro := by
  obtain ⟨xs, hxs, hro, hle, hk, rfl⟩ := storeN_ok h
  obtain ⟨G', hG', hok⟩ := hR.obj b _ hxs rfl
  rw [hG] at hG'; cases hG'
  obtain ⟨arr, T, fz, h1, h2, h3, h4, h5, h6⟩ := hok
  have hl : vs.length = vs'.length := hv.1
  have hst := run_storeCells_fz (P := P) G.blk (G.off + of) T fz vs' 0 arr w h1 (by omega) (fun j hj1 hj2 => h6 hro j (by omega) (by omega)) (hv.oneCells hk)
  refine ⟨_, hst, ?_, rfl, rfl⟩
  intro lo hi
  rw [St.get_put]
  refine Step.change hR hxs rfl hro hG (by simp) (fun B hB => setRow_other w G.blk B _ hB) rfl rfl rfl (fun _ => ?_) lo hi
  refine ⟨_, T, fz, setRow_heap w G.blk arr _ T fz h1, ?_, ?_, h4, ?_, h6⟩
  · simp; omega
  · rw [splice_length hle, h3]
  · have e : (arr.toList.take (G.off + of + 0) ++ vs' ++ arr.toList.drop (G.off + of + 0 + vs'.length)) = splice arr.toList (G.off + of) vs' := by
      simp [splice]
    rw [e, List.toList_toArray, splice_seg (by omega) (by simp; omega)]
    exact h5.splice hv

theorem did_store {t : TypeId} {a x : Operand} {n : Nat} (ho : o.op = .store t a x) (hn : szOf P t = some n) (ha : Rel g (ρ a) (ρ' a)) (hx : Rel g (ρ x) (ρ' x)) (hR : Rl P st.ro g st.get w.heap)
    (h : (AOp.store n a x).run st ρ = .ok (v, st')) : Did P g st w v st' ((execOp ρ' o).run P w) := by
  simp only [AOp.run, Res.bind_eq_ok, Res.need_eq_ok, Res.pure_eq] at h
  obtain ⟨⟨b, of⟩, hp, _, ht, _, hsz, s2, hs2, h⟩ := h
  cases h
  obtain ⟨G, hG, he⟩ := ha.asPtr hp
  have hc := hx.cells (by simpa using ht)
  obtain ⟨w', hw, hstep, hnx, hro⟩ := storeN_run hs2 hc hG hR
  have hsz' : (ρ' x).cells.size = n := by
    have h1 := hc.1
    simp at h1 hsz
    omega
  have e : (execOp ρ' o).run P w = .ok .skip w' := by
    simp [execOp, ho, Instr.storeAt, he, Instr.sureAddr, storeVar, run_sizeOf hn, hsz', hw]
  rw [e]
  exact ⟨undef, w', g, .inr ⟨rfl, rfl⟩, .nothing _, hnx ▸ hstep _ _⟩

/-! ### Literals -/

inductive All2 {α β : Type} (R : α → β → Prop) : List α → List β → Prop
  | nil : All2 R [] []
  | cons {a : α} {b : β} {l : List α} {m : List β} (h : R a b) (k : All2 R l m) : All2 R (a :: l) (b :: m)

theorem foldl_splice : ∀ (l : List Value) (k off : Nat) (cells : Array Value), off + k + l.length ≤ cells.size →
    ((l.zipIdx k).foldl (fun cs (p : Value × Nat) => cs.setIfInBounds (off + p.2) p.1) cells).toList = cells.toList.take (off + k) ++ l ++ cells.toList.drop (off + k + l.length)
  | [], k, off, cells, h => by simp
  | v :: rest, k, off, cells, h => by
    have ih := foldl_splice rest (k + 1) off (cells.setIfInBounds (off + k) v) (by simp at h ⊢; omega)
    simp only [List.zipIdx_cons, List.foldl_cons, ih]
    have e := list_seg_step cells.toList (off + k) v rest (by simp at h ⊢; omega)
    simpa [Array.toList_setIfInBounds, Nat.add_assoc] using e

theorem fillL_run (place : Nat → Option (Nat × Nat)) : ∀ (l : List (Nat × Nat × Value)) (l' : List (Nat × Value)) (zs cs : List Value) (zs' : Array Value),
    All2 (fun p q => place q.1 = some (p.1, p.2.1) ∧ Rel g p.2.2 q.2) l l' → RelL g zs zs'.toList → fillL zs l = .ok cs → ∃ cs' : Array Value, Instr.fill place zs' l' = some cs' ∧ RelL g cs cs'.toList
  | [], l', zs, cs, zs', hl, hz, h => by
    cases hl
    simp [fillL] at h
    subst h
    exact ⟨zs', rfl, hz⟩
  | (of, n, v) :: rest, l', zs, cs, zs', hl, hz, h => by
    cases hl with
    | cons hp hrest =>
      rename_i q qs
      obtain ⟨i, v'⟩ := q
      obtain ⟨hplace, hv⟩ := hp
      simp only [fillL, Res.bind_eq_ok, Res.need_eq_ok] at h
      obtain ⟨_, ht, _, hsz, _, hle, h⟩ := h
      have hc := hv.cells (by simpa using ht)
      have hsz1 : v.cells.size = n := by simpa using hsz
      have hle1 : of + n ≤ zs.length := by simpa using hle
      have hsz' : v'.cells.size = n := by have := hc.1; simp at this; omega
      have hzl : zs.length = zs'.size := by have := hz.1; simpa using this
      obtain ⟨cs', h1, h2⟩ := fillL_run place rest qs (splice zs of v.cells.toList) cs ((v'.cells.toList.zipIdx 0).foldl (fun cs (p : Value × Nat) => cs.setIfInBounds (of + p.2) p.1) zs') hrest (by
        rw [foldl_splice v'.cells.toList 0 of zs' (by simp; omega)]
        have := hz.splice (of := of) hc
        simpa [splice] using this) h
      refine ⟨cs', ?_, h2⟩
      have hplace' : place i = some (of, n) := hplace
      simp only [Instr.fill, hplace']
      rw [if_neg (by simp; omega)]
      rw [← h1]
      congr 1
      rw [← Array.foldl_toList, Array.toList_zipIdx]

theorem forall2_map {α β γ : Type} {R : β → γ → Prop} {l : List α} {f : α → β} {k : α → γ} (h : ∀ a ∈ l, R (f a) (k a)) : All2 R (l.map f) (l.map k) := by
  induction l with
  | nil => exact .nil
  | cons a l ih => exact .cons (h a (by simp)) (ih fun b hb => h b (by simp [hb]))

theorem rowParts_rel {s : Nat} {ps : Array (Nat × Operand)} (h : ∀ x ∈ ps.toList.map (·.2), Rel g (ρ x) (ρ' x)) :
    All2 (fun (p : Nat × Nat × Value) (q : Nat × Value) => (fun i => some (i * s, s)) q.1 = some (p.1, p.2.1) ∧ Rel g p.2.2 q.2) ((rowParts s ps.toList).map fun (p : Nat × Nat × Operand) => (p.1, p.2.1, ρ p.2.2)) (ps.map fun (p : Nat × Operand) => (p.1, ρ' p.2)).toList := by
  unfold rowParts
  rw [List.map_map, Array.toList_map]
  exact forall2_map fun a ha => ⟨rfl, h a.2 (List.mem_map.2 ⟨a, ha, rfl⟩)⟩

theorem zerosL_length (z : List Value) (n : Nat) : (zerosL z n).length = n * z.length := by
  induction n with
  | zero => simp [zerosL]
  | succ n ih => simp [zerosL, ih, Nat.add_mul]; omega

theorem zerosL_get (z : List Value) : ∀ (n i : Nat), i < n * z.length → (zerosL z n)[i]? = z[i % z.length]?
  | 0, i, h => by simp at h
  | n + 1, i, h => by
    rw [Nat.add_mul, Nat.one_mul] at h
    simp only [zerosL]
    rw [List.getElem?_append]
    split
    · rename_i hi; rw [Nat.mod_eq_of_lt hi]
    · rename_i hi
      rw [zerosL_get z n (i - z.length) (by omega)]
      congr 1
      have : i = (i - z.length) + z.length := by omega
      conv => rhs; rw [this]
      rw [Nat.add_mod_right]

/-- The zeros that the model lays. -/
theorem zeros_eq (z : Array Value) (n : Nat) : ((Array.range (n * z.size)).map (z[· % z.size]!)).toList = zerosL z.toList n := by
  apply List.ext_getElem?
  intro i
  by_cases hi : i < n * z.size
  · have hz : 0 < z.size := by rcases Nat.eq_zero_or_pos z.size with h | h
                               · rw [h] at hi; simp at hi
                               · exact h
    rw [zerosL_get z.toList n i (by simpa using hi)]
    have hm : i % z.size < z.size := Nat.mod_lt _ hz
    simp [hi, hm]
  · rw [List.getElem?_eq_none (by simp; omega), List.getElem?_eq_none (by rw [zerosL_length]; simp; omega)]

theorem RelL.zeros {z : List Value} (h : RelL g z z) : ∀ n, RelL g (zerosL z n) (zerosL z n)
  | 0 => .nil g
  | n + 1 => h.append (RelL.zeros h n)

theorem did_lit {t e : TypeId} {s n : Nat} {z : Value} {ps : Array (Nat × Operand)} (ho : o.op = .buildSlice t n ps) (hu : P.underlying t = some (.slice e)) (hs : szOf P e = some s) (hz : zeroOf P e = some z)
    (hsz : z.cells.size = s) (hmost : n * s ≤ 2 ^ 24) (hx : ∀ x ∈ ps.toList.map (·.2), Rel g (ρ x) (ρ' x)) (hR : Rl P st.ro g st.get w.heap) (hf : ∀ id, st.next ≤ id → id < st'.next → g id = none)
    (h : (AOp.lit s n (zerosL z.cells.toList n) (rowParts s ps.toList)).run st ρ = .ok (v, st')) : Did P g st w v st' ((execOp ρ' o).run P w) := by
  simp only [AOp.run, Res.bind_eq_ok, Res.pure_eq] at h
  obtain ⟨cs, hcs, h⟩ := h
  cases h
  obtain ⟨iz, hiz, hzz, hc, ht⟩ := zeroOf_info hz
  obtain ⟨ie, hie, hse, hne⟩ := szOf_info hs
  have hzr := RelL.zeros (RelL.const (g := g) hc ht) n
  rw [← zeros_eq] at hzr
  have hcs' := hcs
  rw [← zeros_eq] at hcs'
  obtain ⟨cs', h1, h2⟩ := fillL_run (g := g) (fun i => some (i * s, s)) _ (ps.map fun (p : Nat × Operand) => (p.1, ρ' p.2)).toList _ cs ((Array.range (n * z.cells.size)).map (z.cells[· % z.cells.size]!)) (rowParts_rel hx) hzr hcs'
  have hstep := did_row (e := e) (c := cs') hR (hf st.next (Nat.le_refl _) (by simp [St.alloc])) h2 rfl
  have hlen : cs.length = n * s := by
    have key : ∀ (l : List (Nat × Nat × Value)) (zs cs : List Value), fillL zs l = .ok cs → cs.length = zs.length := by
      intro l
      induction l with
      | nil => intro zs cs h; simp [fillL] at h; rw [h]
      | cons p l ih =>
        intro zs cs h
        obtain ⟨of, m, u⟩ := p
        simp only [fillL, Res.bind_eq_ok, Res.need_eq_ok] at h
        obtain ⟨_, _, _, h1, _, h2, h⟩ := h
        rw [ih _ _ h, splice_length]
        simp at h1 h2 ⊢
        omega
    rw [key _ _ _ hcs, zerosL_length]
    simp [hsz]
  subst hsz
  have hmost' : ¬ 2 ^ 24 < n * z.cells.size := by omega
  have e : (execOp ρ' o).run P w = .ok (.value (.slice (some ⟨w.heap.size, 0, none⟩) n n)) (w.alloc (.cells cs' e)) := by
    by_cases hn : n * z.cells.size = 0
    · have hfill : Instr.fill (fun i => some (i * z.cells.size, z.cells.size)) #[] (ps.toList.map fun p => (p.1, ρ' p.2)) = some cs' := by
        rw [← h1]
        simp [hn, Array.range_zero']
      simp [execOp, ho, Instr.buildSlice, underlying, hu, run_sizeOf hs, hn, Array.range_zero', hfill, run_newRow]
    · have hfill : Instr.fill (fun i => some (i * z.cells.size, z.cells.size)) ((Array.range (n * z.cells.size)).map (z.cells[· % z.cells.size]!)) (ps.toList.map fun p => (p.1, ρ' p.2)) = some cs' := by
        rw [← h1]
        simp
      have hmost3 : ¬ 16777216 < n * z.cells.size := by simpa using hmost'
      simp [execOp, ho, Instr.buildSlice, underlying, hu, run_sizeOf hs, hn, hmost3, run_zeroOf hz, -Array.map_map, hfill, run_newRow]
  rw [e]
  refine ⟨_, _, _, .inl rfl, ?_, hstep⟩
  exact .slice (G := ⟨w.heap.size, 0, cs.length, cs.length⟩) (Ghost.put_same _ _ _) (by omega) (Nat.le_refl _) (by simp [hlen]) (by simp [hlen])

end
end Go.AM
