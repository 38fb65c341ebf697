/-
  THE ABSTRACT MACHINE, 4: each operation that is no call does in the model what the machine says.
-/
import Derived.Test.YtfknooeebmdfoaaAmRel
import Derived.Laws.Tables
import Derived.Laws.CopyRow
import Derived.Laws.Append
set_option linter.unusedVariables false
set_option linter.unusedSimpArgs false
set_option linter.unnecessarySimpa false
namespace Go.AM

/-- Beside a result of the model: the machine's value, its state. -/
def Did (P : Program) (g : Ghost) (st : St) (w : World) (v : Value) (st' : St) (r : Result Next) : Prop :=
  ∃ v' w' g', (r = .ok (.value v') w' ∨ r = .ok .skip w' ∧ v' = undef) ∧ Rel g' v v' ∧ Step P st.ro g st.get w g' st'.get w' st.next st'.next

section
variable {P : Program} {g : Ghost} {st st' : St} {w : World} {ρ ρ' : Operand → Value} {o : Oper} {v : Value}

theorem Did.same (hR : Rl P st.ro g st.get w.heap) {v v' : Value} (h : Rel g v v') : Did P g st w v st (.ok (.value v') w) :=
  ⟨v', w, g, .inl rfl, h, Step.refl hR _ _⟩

theorem szOf_info {t : TypeId} {n : Nat} (h : szOf P t = some n) : ∃ i, P.info? t = some i ∧ i.size = n ∧ n ≠ 0 := by
  unfold szOf at h
  cases hi : P.info? t with
  | none => simp [hi] at h
  | some i =>
    simp only [hi] at h
    split at h
    · cases h
    · cases h; exact ⟨i, rfl, rfl, by assumption⟩

theorem run_sizeOf {t : TypeId} {n : Nat} (h : szOf P t = some n) : (sizeOf t).run P w = .ok n w := by
  obtain ⟨i, hi, rfl, _⟩ := szOf_info h
  simp [sizeOf, typeInfo, hi]

theorem zeroOf_info {t : TypeId} {z : Value} (h : zeroOf P t = some z) : ∃ i, P.info? t = some i ∧ i.zero = some z ∧ constOk z = true ∧ isTuple z = false := by
  unfold zeroOf at h
  cases hi : P.info? t with
  | none => simp [hi] at h
  | some i =>
    simp only [hi] at h
    cases hz : i.zero with
    | none => simp [hz] at h
    | some z' =>
      simp only [hz] at h
      split at h
      · rename_i hc
        cases h
        rw [Bool.and_eq_true] at hc
        exact ⟨i, rfl, hz, hc.1, by simpa using hc.2⟩
      · cases h

theorem run_zeroOf {t : TypeId} {z : Value} (h : zeroOf P t = some z) : (zeroValue t).run P w = .ok z w := by
  obtain ⟨i, hi, hz, _⟩ := zeroOf_info h
  simp [zeroValue, typeInfo, hi, hz]

theorem run_aggOf_one {t : TypeId} (h : aggOf P t = some none) : (isAgg t).run P w = .ok false w := by
  unfold aggOf at h
  cases hu : P.underlying t with
  | none => simp [hu] at h
  | some d =>
    unfold isAgg
    cases d <;> simp_all [underlying]

theorem run_aggOf_some {t : TypeId} {n : Nat} (h : aggOf P t = some (some n)) : (isAgg t).run P w = .ok true w ∧ (sizeOf t).run P w = .ok n w := by
  unfold aggOf at h
  cases hu : P.underlying t with
  | none => simp [hu] at h
  | some d =>
    cases d <;> simp [hu] at h <;> exact ⟨by unfold isAgg; simp [underlying, hu], run_sizeOf h⟩

theorem Rl.cells (hR : Rl P st.ro g st.get w.heap) {b : Nat} {xs : List Value} (h : st.cells b = .ok xs) :
    ∃ G, g b = some G ∧ ObjOk P st.ro g w.heap b G (.cells xs) ∧ st.get b = some (.cells xs) := by
  unfold St.cells at h
  split at h
  · rename_i ys hy
    cases h
    obtain ⟨G, hG, ho⟩ := hR.obj b _ hy rfl
    exact ⟨G, hG, ho, hy⟩
  · cases h

/-- A cell that the machine reads is there. -/
theorem cell_at {hp : Array Obj} {ro b : Nat} {G : Gh} {xs : List Value} (h : ObjOk P ro g hp b G (.cells xs)) {o : Nat} {v : Value} (hv : xs[o]? = some v) (hw : w.heap = hp) :
    ∃ v', w.cell? ⟨G.blk, G.off + o, none⟩ = some v' ∧ Rel g v v' := by
  obtain ⟨arr, T, fz, h1, h2, h3, h4, h5, h6⟩ := h
  obtain ⟨v', hv', hrel⟩ := h5.get hv
  refine ⟨v', ?_, hrel⟩
  rw [List.getElem?_take] at hv'
  split at hv'
  · rw [List.getElem?_drop] at hv'
    subst hw
    simp only [World.cell?, h1]
    simpa using hv'
  · cases hv'

theorem asPtr_ok {x : Value} {b of : Nat} (h : asPtr x = .ok (b, of)) : x = .pointer (some ⟨b, of, none⟩) := by
  unfold asPtr at h
  split at h <;> simp_all

theorem Rel.asPtr {x x' : Value} {b of : Nat} (hr : Rel g x x') (h : asPtr x = .ok (b, of)) : ∃ G, g b = some G ∧ x' = .pointer (some ⟨G.blk, G.off + of, none⟩) := by
  rw [asPtr_ok h] at hr
  exact hr.toPtr

/-- Cells in a row that the machine reads are there. -/
theorem cells_at {ro b : Nat} {G : Gh} {xs : List Value} (h : ObjOk P ro g w.heap b G (.cells xs)) {of n : Nat} (hl : of + n ≤ xs.length) :
    ∃ l' : List Value, l'.length = n ∧ RelL g ((xs.drop of).take n) l' ∧ ∀ (j : Nat) (v : Value), l'[j]? = some v → w.cell? ((⟨G.blk, G.off + of, none⟩ : Addr).add j) = some v := by
  obtain ⟨arr, T, fz, h1, h2, h3, h4, h5, h6⟩ := h
  refine ⟨(((arr.toList.drop G.off).take G.ext).drop of).take n, ?_, (h5.drop of).take n, ?_⟩
  · have := h5.1; simp at this ⊢; omega
  · intro j v hv
    rw [Addr.add_lit]
    rw [List.getElem?_take] at hv
    split at hv
    · rw [List.getElem?_drop, List.getElem?_take] at hv
      split at hv
      · rw [List.getElem?_drop] at hv
        simp only [World.cell?, h1]
        simpa [Nat.add_assoc] using hv
      · cases hv
    · cases hv

theorem loadN_ok {b of n : Nat} {l : List Value} (h : st.loadN b of n = .ok l) : ∃ xs, st.cells b = .ok xs ∧ of + n ≤ xs.length ∧ l = (xs.drop of).take n := by
  simp only [St.loadN, Res.bind_eq_ok, Res.need_eq_ok, Res.pure_eq] at h
  obtain ⟨xs, hxs, _, hle, h⟩ := h
  cases h
  exact ⟨xs, hxs, by simpa using hle, rfl⟩

theorem did_load {t : TypeId} {a : Operand} {n : Option Nat} (ho : o.op = .load t a) (hn : aggOf P t = some n) (ha : Rel g (ρ a) (ρ' a)) (hR : Rl P st.ro g st.get w.heap)
    (h : (AOp.load n a).run st ρ = .ok (v, st')) : Did P g st w v st' ((execOp ρ' o).run P w) := by
  simp only [AOp.run, Res.bind_eq_ok] at h
  obtain ⟨⟨b, of⟩, hp, h⟩ := h
  obtain ⟨G, hG, he⟩ := ha.asPtr hp
  cases n with
  | none =>
    simp only [Res.bind_eq_ok, St.load1, Res.of_eq_ok, Res.pure_eq] at h
    obtain ⟨u, ⟨xs, hxs, hu⟩, h⟩ := h
    cases h
    obtain ⟨G', hG', hok, _⟩ := hR.cells hxs
    rw [hG] at hG'; cases hG'
    obtain ⟨v', hc, hrel⟩ := cell_at (w := w) hok hu rfl
    have e : (execOp ρ' o).run P w = .ok (.value v') w := by
      simp [execOp, ho, Instr.loadAt, he, Instr.sureAddr, loadVar, run_aggOf_one hn, hc]
    rw [e]
    exact Did.same hR hrel
  | some n =>
    simp only [Res.bind_eq_ok, Res.pure_eq] at h
    obtain ⟨l, hl, h⟩ := h
    cases h
    obtain ⟨xs, hxs, hle, rfl⟩ := loadN_ok hl
    obtain ⟨G', hG', hok, _⟩ := hR.cells hxs
    rw [hG] at hG'; cases hG'
    obtain ⟨l', hl', hrel, hc⟩ := cells_at (w := w) hok hle
    obtain ⟨e1, e2⟩ := run_aggOf_some (w := w) hn
    have e3 := run_loadCells_list (P := P) w _ l' hc
    rw [hl'] at e3
    have e : (execOp ρ' o).run P w = .ok (.value (.agg l'.toArray)) w := by
      simp [execOp, ho, Instr.loadAt, he, Instr.sureAddr, loadVar, e1, e2, e3]
    rw [e]
    exact Did.same hR (.agg_of hrel)

theorem did_mv {x : Operand} (ho : o.op = .move x ∨ o.op = .assign x) (hx : Rel g (ρ x) (ρ' x)) (hR : Rl P st.ro g st.get w.heap)
    (h : (AOp.mv x).run st ρ = .ok (v, st')) : Did P g st w v st' ((execOp ρ' o).run P w) := by
  simp only [AOp.run] at h
  cases h
  have e : (execOp ρ' o).run P w = .ok (.value (ρ' x)) w := by rcases ho with ho | ho <;> simp [execOp, ho]
  rw [e]
  exact Did.same hR hx

theorem did_pick {c x y : Operand} (ho : o.op = .pick c x y) (hc : Rel g (ρ c) (ρ' c)) (hx : Rel g (ρ x) (ρ' x)) (hy : Rel g (ρ y) (ρ' y)) (hR : Rl P st.ro g st.get w.heap)
    (h : (AOp.pick c x y).run st ρ = .ok (v, st')) : Did P g st w v st' ((execOp ρ' o).run P w) := by
  simp only [AOp.run] at h
  split at h
  · rename_i t ht
    cases h
    rw [ht] at hc
    have e : (execOp ρ' o).run P w = .ok (.value (if t then ρ' x else ρ' y)) w := by
      simp [execOp, ho, hc.bool, asBool]
    rw [e]
    refine Did.same hR ?_
    cases t <;> simp [hx, hy]
  · cases h

theorem run_newRow (w : World) (e : TypeId) (c : Array Value) : (newRow e c).run P w = .ok ⟨w.heap.size, 0, none⟩ (w.alloc (.cells c e)) := by
  simp [newRow]

theorem relL_take_all {l l' : List Value} (h : RelL g l l') : RelL g l ((l'.toArray.toList.drop 0).take l.length) := by
  simp only [List.drop_zero]
  rw [h.1, List.take_length]
  exact h

/-- A row of cells, newly made. -/
theorem did_row {xs xs' : List Value} {e : TypeId} {c : Array Value} (hR : Rl P st.ro g st.get w.heap) (hf : g st.next = none) (hx : RelL g xs xs') (hc : c.toList = xs') :
    Step P st.ro g st.get w (g.put st.next ⟨w.heap.size, 0, xs.length, xs.length⟩) (st.alloc (.cells xs)).get (w.alloc (.cells c e)) st.next (st.next + 1) := by
  rw [St.get_alloc]
  have hlen : xs.length = c.size := by rw [hx.1, ← hc]; simp
  refine Step.alloc hR hf (ob := .cells c e) rfl rfl rfl rfl rfl ?_
  refine ⟨c, e, (0, 0), ?_, by simp [hlen], rfl, Nat.le_refl _, ?_, fun _ j _ _ => by simp⟩
  · show (w.heap.push _)[w.heap.size]? = _
    simp
  · show RelL _ xs _
    have : c.toList = c.toList.toArray.toList := by simp
    have hx' : RelL (g.put st.next ⟨w.heap.size, 0, xs.length, xs.length⟩) xs c.toList := by rw [hc]; exact hx.mono (Ghost.le_put hf _)
    simp only [List.drop_zero]
    have e : xs.length = c.toList.length := hx'.1
    rw [show c.toList.take xs.length = c.toList by rw [e, List.take_length]]
    exact hx'

theorem Rel.const {v : Value} (h : constOk v = true) : Rel g v v := by
  have aux : ∀ u : Value, cellConst u = true → Rel g u u := fun u hu => by
    cases u with
    | slice a n c =>
      simp [cellConst] at hu
      obtain ⟨⟨rfl, rfl⟩, rfl⟩ := hu
      exact .nilSlice 0
    | _ => first | exact .flat (by simpa [cellConst] using hu)
  cases v with
  | tuple cs =>
    simp [constOk] at h
    subst h
    exact .nothing _
  | agg cs =>
    simp only [constOk] at h
    have := RelL.of_flat (g := g) (l := cs.toList) (fun v hv => aux v (List.all_eq_true.1 h v hv))
    exact Rel.agg_of this
  | _ => exact aux _ (by simpa [constOk] using h)

theorem RelL.const {z : Value} (h : constOk z = true) (hz : isTuple z = false) : RelL g z.cells.toList z.cells.toList := (Rel.const h).cells hz

theorem did_new {t : TypeId} {z : Value} (ho : o.op = .alloc t) (hz : zeroOf P t = some z) (hR : Rl P st.ro g st.get w.heap) (hf : ∀ id, st.next ≤ id → id < st'.next → g id = none)
    (h : (AOp.new z.cells.toList).run st ρ = .ok (v, st')) : Did P g st w v st' ((execOp ρ' o).run P w) := by
  simp only [AOp.run] at h
  cases h
  obtain ⟨i, hi, hz', hc, ht⟩ := zeroOf_info hz
  have hs := did_row (e := t) (c := z.cells) hR (hf st.next (Nat.le_refl _) (by simp [St.alloc])) (RelL.const hc ht) rfl
  have e : (execOp ρ' o).run P w = .ok (.value (.pointer (some ⟨w.heap.size, 0, none⟩))) (w.alloc (.cells z.cells t)) := by
    simp [execOp, ho, Instr.alloc, run_zeroOf hz, newVar, run_newRow]
  rw [e]
  exact ⟨_, _, _, .inl rfl, .ptr (Ghost.put_same _ _ _), hs⟩

theorem did_box {t : TypeId} {x : Operand} (ho : o.op = .box t x) (hx : Rel g (ρ x) (ρ' x)) (hR : Rl P st.ro g st.get w.heap) (hf : ∀ id, st.next ≤ id → id < st'.next → g id = none)
    (h : (AOp.box x).run st ρ = .ok (v, st')) : Did P g st w v st' ((execOp ρ' o).run P w) := by
  simp only [AOp.run, Res.bind_eq_ok, Res.need_eq_ok, Res.pure_eq] at h
  obtain ⟨_, ht, h⟩ := h
  cases h
  have hs := did_row (e := t) (c := (ρ' x).cells) hR (hf st.next (Nat.le_refl _) (by simp [St.alloc])) (hx.cells (by simpa using ht)) rfl
  have e : (execOp ρ' o).run P w = .ok (.value (.pointer (some ⟨w.heap.size, 0, none⟩))) (w.alloc (.cells (ρ' x).cells t)) := by
    simp [execOp, ho, Instr.box, newVar, run_newRow]
  rw [e]
  exact ⟨_, _, _, .inl rfl, .ptr (Ghost.put_same _ _ _), hs⟩

theorem did_iface {t : TypeId} {x : Operand} (ho : o.op = .makeInterface t x) {d : TypeDesc} (hu : P.underlying t = some d) (hd : ∀ ms, d ≠ .interface ms) (hx : Rel g (ρ x) (ρ' x)) (hR : Rl P st.ro g st.get w.heap)
    (h : (AOp.iface t x).run st ρ = .ok (v, st')) : Did P g st w v st' ((execOp ρ' o).run P w) := by
  simp only [AOp.run] at h
  cases h
  have e : (execOp ρ' o).run P w = .ok (.value (.iface t (ρ' x))) w := by
    cases d <;> simp [execOp, ho, Instr.makeInterface, underlying, hu] <;> exact absurd rfl (hd _)
  rw [e]
  exact Did.same hR (.iface hx)

theorem relL_map {l : List Operand} (h : ∀ x ∈ l, Rel g (ρ x) (ρ' x)) : RelL g (l.map ρ) (l.map ρ') := by
  induction l with
  | nil => exact .nil g
  | cons x l ih => exact .cons (h x (by simp)) (ih fun y hy => h y (by simp [hy]))

theorem did_fn {f : FuncId} {a c : Array Operand} (ho : o.op = .makeFunc (.func f) a c) (ha : ∀ x ∈ a.toList, Rel g (ρ x) (ρ' x)) (hc : ∀ x ∈ c.toList, Rel g (ρ x) (ρ' x)) (hR : Rl P st.ro g st.get w.heap)
    (h : (AOp.fn f a.toList c.toList).run st ρ = .ok (v, st')) : Did P g st w v st' ((execOp ρ' o).run P w) := by
  simp only [AOp.run] at h
  cases h
  have e : (execOp ρ' o).run P w = .ok (.value (.func (.func f) (a.map ρ') (c.map ρ'))) w := by
    simp [execOp, ho, Instr.makeFunc]
  rw [e]
  have h1 := RelL.array (g := g) (c := (a.toList.map ρ).toArray) (c' := a.map ρ') (by simpa using relL_map ha)
  have h2 := RelL.array (g := g) (c := (c.toList.map ρ).toArray) (c' := c.map ρ') (by simpa using relL_map hc)
  exact Did.same hR (.func h1.1 h2.1 h1.2 h2.2)

theorem did_off {t : TypeId} {x : Operand} {f : Nat} {fs : Array Field} {fl : Field} {n : Nat} (ho : o.op = .fieldAddr t x f) (hu : P.underlying t = some (.struct fs)) (hfl : fs[f]? = some fl) (hs : szOf P fl.type = some n)
    (hx : Rel g (ρ x) (ρ' x)) (hR : Rl P st.ro g st.get w.heap)
    (h : (AOp.off fl.offset x).run st ρ = .ok (v, st')) : Did P g st w v st' ((execOp ρ' o).run P w) := by
  simp only [AOp.run, Res.bind_eq_ok, Res.pure_eq] at h
  obtain ⟨⟨b, of⟩, hp, h⟩ := h
  cases h
  obtain ⟨G, hG, he⟩ := hx.asPtr hp
  obtain ⟨i, hi, rfl, hne⟩ := szOf_info hs
  have e : (execOp ρ' o).run P w = .ok (.value (.pointer (some ⟨G.blk, G.off + (of + fl.offset), none⟩))) w := by
    simp [execOp, ho, Instr.fieldAt, underlying, hu, hfl, he, Instr.sureAddr, fieldPlace, sizeOf, typeInfo, hi, hne, Addr.add_lit, Nat.add_assoc]
  rw [e]
  exact Did.same hR (.ptr hG)

/-- A part of an aggregate. -/
theorem run_part {t : TypeId} {n : Option Nat} (hn : aggOf P t = some n) {cs cs' : Array Value} {of : Nat} (hc : RelL g cs.toList cs'.toList) (h : part n cs.toList of = .ok v) :
    ∃ v', (Go.part t cs' of).run P w = .ok v' w ∧ Rel g v v' := by
  cases n with
  | none =>
    simp only [part, Res.of_eq_ok] at h
    obtain ⟨v', hv', hr⟩ := hc.get h
    refine ⟨v', ?_, hr⟩
    have : cs'[of]? = some v' := by simpa using hv'
    simp [Go.part, run_aggOf_one hn, this]
  | some n =>
    simp only [part, Res.bind_eq_ok, Res.need_eq_ok, Res.pure_eq] at h
    obtain ⟨_, hle, h⟩ := h
    cases h
    obtain ⟨e1, e2⟩ := run_aggOf_some (w := w) hn
    refine ⟨.agg (cs'.extract of (of + n)), by simp [Go.part, e1, e2], ?_⟩
    have h1 := (hc.drop of).take n
    have h2 := Rel.agg_of h1
    have h3 : ((cs'.toList.drop of).take n).toArray = cs'.extract of (of + n) := by
      apply Array.ext'
      simp [List.take_drop, Nat.add_comm]
    rwa [h3] at h2

theorem did_field {t : TypeId} {x : Operand} {f : Nat} {fs : Array Field} {fl : Field} {n : Option Nat} (ho : o.op = .field t x f) (hu : P.underlying t = some (.struct fs)) (hfl : fs[f]? = some fl) (hn : aggOf P fl.type = some n)
    (hx : Rel g (ρ x) (ρ' x)) (hR : Rl P st.ro g st.get w.heap)
    (h : (AOp.field n fl.offset x).run st ρ = .ok (v, st')) : Did P g st w v st' ((execOp ρ' o).run P w) := by
  simp only [AOp.run] at h
  split at h
  · rename_i cs hcs
    simp only [Res.bind_eq_ok, Res.pure_eq] at h
    obtain ⟨u, hpart, h⟩ := h
    cases h
    rw [hcs] at hx
    obtain ⟨cs', he, hc⟩ := hx.toAgg
    obtain ⟨v', hv', hr⟩ := run_part (w := w) hn hc hpart
    have e : (execOp ρ' o).run P w = .ok (.value v') w := by
      simp [execOp, ho, Instr.field, underlying, hu, hfl, he, asAgg, hv']
    rw [e]
    exact Did.same hR hr
  · cases h

theorem Rel.toTuple {g : Ghost} {c : Array Value} {v : Value} (h : Rel g (.tuple c) v) (hc : c ≠ #[]) : ∃ c', v = .tuple c' ∧ RelL g c.toList c'.toList := by
  generalize hx : Value.tuple c = x at h
  cases h with
  | nothing v => simp [AM.nothing] at hx; exact absurd hx hc
  | flat h => subst hx; simp [AM.flat] at h
  | tuple hs h => cases hx; exact ⟨_, rfl, .of_array hs h⟩
  | _ => cases hx

theorem did_extract {x : Operand} {i : Nat} (ho : o.op = .extract x i) (hx : Rel g (ρ x) (ρ' x)) (hR : Rl P st.ro g st.get w.heap)
    (h : (AOp.extract x i).run st ρ = .ok (v, st')) : Did P g st w v st' ((execOp ρ' o).run P w) := by
  simp only [AOp.run] at h
  split at h
  · rename_i vs hvs
    simp only [Res.bind_eq_ok, Res.pure_eq, Res.of_eq_ok] at h
    obtain ⟨u, hu, h⟩ := h
    cases h
    rw [hvs] at hx
    obtain ⟨c', he, hc⟩ := hx.toTuple (by rintro rfl; simp at hu)
    obtain ⟨v', hv', hr⟩ := hc.get (i := i) (v := v) (by simpa using hu)
    have hv2 : c'[i]? = some v' := by simpa using hv'
    have e : (execOp ρ' o).run P w = .ok (.value v') w := by
      simp [execOp, ho, Instr.extract, he, hv2]
    rw [e]
    exact Did.same hR hr
  · cases h

theorem index_ok {x : Value} {n i : Nat} (h : index x n = .ok i) : ∃ k, x = .int k (i : Int) ∧ i < n := by
  unfold index at h
  split at h
  · rename_i k m
    split at h
    · rename_i hm
      cases h
      refine ⟨k, by rw [Int.toNat_of_nonneg hm.1], by omega⟩
    · cases h
  · cases h

theorem Rel.toSlice {id of n s : Nat} {v : Value} (h : Rel g (.slice (some ⟨id, of, none⟩) n s) v) : ∃ G, g id = some G ∧ 0 < s ∧
    ((∃ c, v = .slice (some ⟨G.blk, G.off + of, none⟩) n c ∧ n ≤ c ∧ G.ext ≤ of + c * s ∧ of + c * s ≤ G.room) ∨
     (n = 0 ∧ G.ext ≤ of ∧ of ≤ G.room ∧ ∃ a : Addr, v = .slice (some a) 0 0 ∧ a.spot = none)) := by
  cases h with
  | flat h => simp [AM.flat] at h
  | slice hG h0 hn he hr => exact ⟨_, hG, h0, .inl ⟨_, rfl, hn, he, hr⟩⟩
  | emptySlice hG h0 he hr ha => exact ⟨_, hG, h0, .inr ⟨rfl, he, hr, _, rfl, ha⟩⟩

theorem Rel.toNilSlice {n s : Nat} {v : Value} (h : Rel g (.slice none n s) v) : n = 0 ∧ v = .slice none 0 0 := by
  cases h with
  | flat h => simp [AM.flat] at h
  | nilSlice s => exact ⟨rfl, rfl⟩

theorem did_ixA_slice {t e : TypeId} {s : Nat} {x i : Operand} (ho : o.op = .indexAddr t x i) (hu : P.underlying t = some (.slice e)) (hs : szOf P e = some s)
    (hx : Rel g (ρ x) (ρ' x)) (hi : Rel g (ρ i) (ρ' i)) (hR : Rl P st.ro g st.get w.heap)
    (h : (AOp.ixA s none x i).run st ρ = .ok (v, st')) : Did P g st w v st' ((execOp ρ' o).run P w) := by
  simp only [AOp.run] at h
  split at h
  · rename_i b of n s' hln hxv
    simp only [Res.bind_eq_ok, Res.pure_eq, Res.need_eq_ok] at h
    obtain ⟨_, hss, j, hj, h⟩ := h
    cases h
    have hss' : s' = s := by simpa using hss
    subst hss'
    obtain ⟨k, hk, hlt⟩ := index_ok hj
    rw [hk] at hi
    rw [hxv] at hx
    have hi' := hi.int
    obtain ⟨G, hG, h0, h | h⟩ := hx.toSlice
    · obtain ⟨c, he, hn, hext, hroom⟩ := h
      have e : (execOp ρ' o).run P w = .ok (.value (.pointer (some ⟨G.blk, G.off + (of + j * s'), none⟩))) w := by
        simp [execOp, ho, Instr.indexAt, underlying, hu, he, hi', asIntOf, run_sizeOf hs, hlt, Addr.add_lit, Nat.add_assoc]
      rw [e]
      exact Did.same hR (.ptr hG)
    · omega
  · rename_i h1 h2; cases h1
  · cases h

theorem did_ixA_arr {t e : TypeId} {s n : Nat} {x i : Operand} (ho : o.op = .indexAddr t x i) (hu : P.underlying t = some (.array n e)) (hs : szOf P e = some s)
    (hx : Rel g (ρ x) (ρ' x)) (hi : Rel g (ρ i) (ρ' i)) (hR : Rl P st.ro g st.get w.heap)
    (h : (AOp.ixA s (some n) x i).run st ρ = .ok (v, st')) : Did P g st w v st' ((execOp ρ' o).run P w) := by
  simp only [AOp.run] at h
  split at h
  · rename_i h1 h2; cases h1
  · rename_i m b of hln hxv
    cases hln
    simp only [Res.bind_eq_ok, Res.pure_eq] at h
    obtain ⟨j, hj, h⟩ := h
    cases h
    obtain ⟨k, hk, hlt⟩ := index_ok hj
    rw [hk] at hi
    rw [hxv] at hx
    have hi' := hi.int
    obtain ⟨G, hG, he⟩ := hx.toPtr
    have e : (execOp ρ' o).run P w = .ok (.value (.pointer (some ⟨G.blk, G.off + (of + j * s), none⟩))) w := by
      simp [execOp, ho, Instr.indexAt, underlying, hu, he, hi', asIntOf, Instr.sureAddr, run_sizeOf hs, hlt, Addr.add_lit, Nat.add_assoc]
    rw [e]
    exact Did.same hR (.ptr hG)
  · cases h

theorem did_ixS {t : TypeId} {x i : Operand} (ho : o.op = .index t x i) (hu : P.underlying t = some .string)
    (hx : Rel g (ρ x) (ρ' x)) (hi : Rel g (ρ i) (ρ' i)) (hR : Rl P st.ro g st.get w.heap)
    (h : (AOp.ixS x i).run st ρ = .ok (v, st')) : Did P g st w v st' ((execOp ρ' o).run P w) := by
  simp only [AOp.run] at h
  split at h
  · rename_i s hxv
    simp only [Res.bind_eq_ok, Res.pure_eq, Res.of_eq_ok] at h
    obtain ⟨j, hj, u, hu', h⟩ := h
    cases h
    obtain ⟨k, hk, hlt⟩ := index_ok hj
    rw [hk] at hi
    rw [hxv] at hx
    have hsj : s[j]? = some u := by
      have hlt' : j < s.data.size := hlt
      rw [Array.getElem?_eq_getElem hlt'] at hu'
      cases hu'
      simp [getElem?_def, hlt]
      rfl
    have e : (execOp ρ' o).run P w = .ok (.value (.int .u8 u.toNat)) w := by
      simp [execOp, ho, Instr.index, underlying, hu, hx.string, hi.int, asIntOf, hsj]
    rw [e]
    exact Did.same hR (.flat rfl)
  · cases h

theorem did_ixV {t e : TypeId} {s ln : Nat} {n : Option Nat} {x i : Operand} (ho : o.op = .index t x i) (hu : P.underlying t = some (.array ln e)) (hs : szOf P e = some s) (hn : aggOf P e = some n)
    (hx : Rel g (ρ x) (ρ' x)) (hi : Rel g (ρ i) (ρ' i)) (hR : Rl P st.ro g st.get w.heap)
    (h : (AOp.ixV n s ln x i).run st ρ = .ok (v, st')) : Did P g st w v st' ((execOp ρ' o).run P w) := by
  simp only [AOp.run] at h
  split at h
  · rename_i cs hcs
    simp only [Res.bind_eq_ok, Res.pure_eq] at h
    obtain ⟨j, hj, u, hpart, h⟩ := h
    cases h
    obtain ⟨k, hk, hlt⟩ := index_ok hj
    rw [hk] at hi
    rw [hcs] at hx
    obtain ⟨cs', he, hc⟩ := hx.toAgg
    obtain ⟨v', hv', hr⟩ := run_part (w := w) hn hc hpart
    have e : (execOp ρ' o).run P w = .ok (.value v') w := by
      simp [execOp, ho, Instr.index, underlying, hu, he, hi.int, asIntOf, hlt, run_sizeOf hs, hv']
    rw [e]
    exact Did.same hR hr
  · cases h

theorem Rel.toFunc {g : Ghost} {f : FuncId} {a c : Array Value} {v : Value} (h : Rel g (.func (.func f) a c) v) : ∃ a' c', v = .func (.func f) a' c' ∧ RelL g a.toList a'.toList ∧ RelL g c.toList c'.toList := by
  cases h with
  | flat h => simp [AM.flat] at h
  | func ha hc h k => exact ⟨_, _, rfl, .of_array ha h, .of_array hc k⟩

theorem did_nilc {x : Operand} (ho : o.op = .nilCheck x) (hx : Rel g (ρ x) (ρ' x)) (hR : Rl P st.ro g st.get w.heap)
    (h : (AOp.nilc x).run st ρ = .ok (v, st')) : Did P g st w v st' ((execOp ρ' o).run P w) := by
  simp only [AOp.run] at h
  split at h
  · rename_i a ha
    cases h
    rw [ha] at hx
    have : ∃ a', ρ' x = .pointer (some a') := by
      generalize ρ' x = y at hx
      cases hx with
      | flat h => simp [AM.flat] at h
      | ptr h => exact ⟨_, rfl⟩
    obtain ⟨a', ha'⟩ := this
    have e : (execOp ρ' o).run P w = .ok (.value (ρ' x)) w := by simp [execOp, ho, ha']
    rw [e]
    exact Did.same hR hx
  · rename_i f p c ha
    cases h
    rw [ha] at hx
    obtain ⟨a', c', he, _⟩ := hx.toFunc
    have e : (execOp ρ' o).run P w = .ok (.value (ρ' x)) w := by simp [execOp, ho, he]
    rw [e]
    exact Did.same hR hx
  · rename_i t u ha
    cases h
    rw [ha] at hx
    obtain ⟨y, he, _⟩ := hx.toIface
    have e : (execOp ρ' o).run P w = .ok (.value (ρ' x)) w := by simp [execOp, ho, he]
    rw [e]
    exact Did.same hR hx
  · cases h

theorem did_un {op : UnOp} {t : TypeId} {x : Operand} (ho : o.op = .unOp op t x) (hx : Rel g (ρ x) (ρ' x)) (hR : Rl P st.ro g st.get w.heap)
    (h : (AOp.un op x).run st ρ = .ok (v, st')) : Did P g st w v st' ((execOp ρ' o).run P w) := by
  simp only [AOp.run, Res.bind_eq_ok, Res.pure_eq] at h
  obtain ⟨u, hu, h⟩ := h
  cases h
  unfold aun at hu
  split at hu
  · rename_i k n hxv
    cases hu
    rw [hxv] at hx
    have e : (execOp ρ' o).run P w = .ok (.value (.int k (k.wrap (0 - n)))) w := by simp [execOp, ho, Op.unary, hx.int, Op.intArith]
    rw [e]
    exact Did.same hR (.flat rfl)
  · rename_i k n hxv
    cases hu
    rw [hxv] at hx
    have e : (execOp ρ' o).run P w = .ok (.value (.int k (k.wrap (BitVec.ofInt k.bits (if k.signed then -1 else k.max) ^^^ BitVec.ofInt k.bits n).toNat))) w := by
      simp only [execOp, ho, Op.unary, hx.int, Op.intBits]
      rfl
    rw [e]
    exact Did.same hR (.flat rfl)
  · rename_i b hxv
    cases hu
    rw [hxv] at hx
    have e : (execOp ρ' o).run P w = .ok (.value (.bool !b)) w := by simp [execOp, ho, Op.unary, hx.bool]
    rw [e]
    exact Did.same hR (.flat rfl)
  · cases hu

theorem aint_run {op : BinOp} {k : IntKind} {a b : Int} (h : aint op k a b = .ok v) (t : TypeId) (hop : op ≠ .shl ∧ op ≠ .shr) :
    (binOp op t (.int k a) (.int k b)).run P w = .ok v w ∧ AM.flat v = true := by
  cases op <;> simp only [aint] at h <;> first
    | (cases h; exact ⟨by rw [binOp_and]; rfl, rfl⟩)
    | (cases h; exact ⟨by rw [binOp_or]; rfl, rfl⟩)
    | (cases h; exact ⟨by rw [binOp_xor]; rfl, rfl⟩)
    | (cases h; exact ⟨by rw [binOp_andNot]; rfl, rfl⟩)
    | (cases h; exact ⟨by simp [binOp, Op.intArith, Op.intCmp], rfl⟩)
    | (split at h
       · cases h
       · rename_i hb
         cases h
         exact ⟨by simp [binOp, Op.intDiv, hb], rfl⟩)
    | simp at hop
    | cases h

theorem ashift_run {op : BinOp} {k k' : IntKind} {a b : Int} (h : ashift op k a b = .ok v) (t : TypeId) :
    (binOp op t (.int k a) (.int k' b)).run P w = .ok v w ∧ AM.flat v = true := by
  unfold ashift at h
  split at h
  · cases h
  · rename_i hb
    cases op <;> simp only [] at h <;> first
      | (cases h; done)
      | (cases h; exact ⟨by simp [binOp, Op.shift, hb], rfl⟩)

theorem astr_run {op : BinOp} {a b : ByteArray} (h : astr op a b = .ok v) (t : TypeId) :
    (binOp op t (.string a) (.string b)).run P w = .ok v w ∧ AM.flat v = true := by
  cases op <;> simp only [astr] at h <;> first
    | (cases h; done)
    | (cases h; exact ⟨by simp [binOp, Op.stringOp], rfl⟩)
    | (split at h
       · cases h
       · rename_i hb
         cases h
         exact ⟨by simp only [binOp, Op.stringOp, hb]; simp, rfl⟩)

theorem did_bin {op : BinOp} {t t' : TypeId} {x y : Operand} (ho : o.op = .binOp op t x y t') (hx : Rel g (ρ x) (ρ' x)) (hy : Rel g (ρ y) (ρ' y)) (hR : Rl P st.ro g st.get w.heap)
    (h : (AOp.bin op x y).run st ρ = .ok (v, st')) : Did P g st w v st' ((execOp ρ' o).run P w) := by
  simp only [AOp.run, Res.bind_eq_ok, Res.pure_eq] at h
  obtain ⟨u, hu, h⟩ := h
  cases h
  unfold abin at hu
  split at hu
  · rename_i k a k' b hxv hyv
    rw [hxv] at hx
    rw [hyv] at hy
    have key : (binOp op t (.int k a) (.int k' b)).run P w = .ok v w ∧ AM.flat v = true := by
      split at hu
      · exact ashift_run hu t
      · exact ashift_run hu t
      · rename_i h1 h2
        split at hu
        · rename_i hk
          subst hk
          exact aint_run hu t ⟨h1, h2⟩
        · cases hu
    have e : (execOp ρ' o).run P w = .ok (.value v) w := by simp [execOp, ho, hx.int, hy.int, eqGuard_at_int, key.1]
    rw [e]
    exact Did.same hR (.flat key.2)
  · rename_i a b hxv hyv
    rw [hxv] at hx
    rw [hyv] at hy
    have key := astr_run (P := P) (w := w) hu t
    have e : (execOp ρ' o).run P w = .ok (.value v) w := by simp [execOp, ho, hx.string, hy.string, eqGuard_at_string, key.1]
    rw [e]
    exact Did.same hR (.flat key.2)
  · cases hu

theorem minmax2_run {mx : Bool} {x y z x' y' : Value} (h : minmax2 mx x y = .ok z) (hx : Rel g x x') (hy : Rel g y y') :
    ((if mx then Builtin.max2 x' y' else Builtin.min2 x' y').run P w = .ok z w) ∧ Rel g z z := by
  unfold minmax2 at h
  split at h
  · rename_i k a k' b
    split at h
    · rename_i hk
      subst hk
      cases h
      rw [hx.int, hy.int]
      cases mx <;> exact ⟨by simp [Builtin.max2, Builtin.min2], .flat rfl⟩
    · cases h
  · cases h

theorem did_newMap {t : TypeId} (ho : o.op = .makeMap t none) (hR : Rl P st.ro g st.get w.heap) (hf : ∀ id, st.next ≤ id → id < st'.next → g id = none)
    (h : AOp.newMap.run st ρ = .ok (v, st')) : Did P g st w v st' ((execOp ρ' o).run P w) := by
  simp only [AOp.run] at h
  cases h
  have e : (execOp ρ' o).run P w = .ok (.value (.map (some w.heap.size))) (w.alloc (.map #[] 0)) := by
    simp [execOp, ho, Instr.makeMap]
  rw [e]
  refine ⟨_, _, g.put st.next ⟨w.heap.size, 0, 0, 0⟩, .inl rfl, .map (G := ⟨w.heap.size, 0, 0, 0⟩) (Ghost.put_same _ _ _), ?_⟩
  rw [St.get_alloc]
  refine Step.alloc hR (hf st.next (Nat.le_refl _) (by simp [St.alloc])) (ob := .map #[] 0) rfl rfl rfl rfl rfl ?_
  refine ⟨#[], 0, ?_, rfl, fun i q h => by simp at h⟩
  show (w.heap.push _)[w.heap.size]? = _
  simp

theorem did_assert {t xt : TypeId} {z : Value} {ok : Bool} {x : Operand} {d : TypeDesc} (ho : o.op = .typeAssert x xt t ok) (hu : P.underlying t = some d) (hd : ∀ ms, d ≠ .interface ms) (hz : zeroOf P t = some z)
    (hx : Rel g (ρ x) (ρ' x)) (hR : Rl P st.ro g st.get w.heap)
    (h : (AOp.assert t z ok x).run st ρ = .ok (v, st')) : Did P g st w v st' ((execOp ρ' o).run P w) := by
  obtain ⟨_, _, _, hzc, _⟩ := zeroOf_info hz
  have hz2 : ∀ b : Bool, Rel g (.tuple #[z, .bool b]) (.tuple #[z, .bool b]) := fun b =>
    Rel.tuple_of (c := [z, .bool b]) (c' := [z, .bool b]) (.cons (.const hzc) (.cons (.flat rfl) (.nil g)))
  simp only [AOp.run] at h
  split at h
  · rename_i u y hxv
    rw [hxv] at hx
    obtain ⟨y', he, hr⟩ := hx.toIface
    split at h
    · rename_i hut
      subst hut
      cases h
      have e : (execOp ρ' o).run P w = .ok (.value (if ok then .tuple #[y', .bool true] else y')) w := by
        cases d <;> first | exact absurd rfl (hd _) | (cases ok <;> simp [execOp, ho, Instr.typeAssert, underlying, hu, he])
      rw [e]
      refine Did.same hR ?_
      cases ok
      · exact hr
      · exact Rel.tuple_of (c := [y, .bool true]) (c' := [y', .bool true]) (.cons hr (.cons (.flat rfl) (.nil g)))
    · rename_i hut
      split at h
      · rename_i hok
        cases h
        have e : (execOp ρ' o).run P w = .ok (.value (.tuple #[z, .bool false])) w := by
          cases d <;> first | exact absurd rfl (hd _) | simp [execOp, ho, Instr.typeAssert, underlying, hu, he, hut, hok, run_zeroOf hz]
        rw [e]
        exact Did.same hR (hz2 _)
      · cases h
  · rename_i hxv
    rw [hxv] at hx
    split at h
    · rename_i hok
      cases h
      have e : (execOp ρ' o).run P w = .ok (.value (.tuple #[z, .bool false])) w := by
        cases d <;> first | exact absurd rfl (hd _) | simp [execOp, ho, Instr.typeAssert, underlying, hu, hx.nilIface, hok, run_zeroOf hz]
      rw [e]
      exact Did.same hR (hz2 _)
    · cases h
  · cases h
end
end Go.AM
