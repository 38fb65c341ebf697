/-
  THE ABSTRACT MACHINE, 13: conversions, texts gone through; each operation that is no call.
-/
import Derived.Test.YtfknooeebmdfoaaAmOpsI
set_option linter.unusedVariables false
set_option linter.unusedSimpArgs false
set_option linter.unnecessarySimpa false
namespace Go.AM

section
variable {P : Program} {g : Ghost} {st st' : St} {w : World} {ρ ρ' : Operand → Value} {o : Oper} {v : Value}

theorem bytesL_ints : ∀ (l : List Value) (r t : ByteArray), bytesL l r = .ok t → ∃ ns : List Int, l = ns.map (Value.int .u8) ∧ t = ns.foldl (fun r n => r.push (UInt8.ofNat n.toNat)) r
  | [], r, t, h => by simp [bytesL] at h; subst h; exact ⟨[], rfl, rfl⟩
  | x :: l, r, t, h => by
    cases x with
    | int k b =>
      cases k with
      | u8 =>
        simp only [bytesL] at h
        obtain ⟨ns, h1, h2⟩ := bytesL_ints l _ _ h
        exact ⟨b :: ns, by rw [h1]; rfl, by rw [h2]; rfl⟩
      | _ => simp [bytesL] at h
    | _ => simp [bytesL] at h

theorem RelL.ints {l : List Value} {ns : List Int} (h : RelL g (ns.map (Value.int .u8)) l) : l = ns.map (Value.int .u8) := by
  apply List.ext_getElem?
  intro i
  by_cases hi : i < ns.length
  · have h1 : (ns.map (Value.int .u8))[i]? = some (.int .u8 ns[i]) := by simp [hi]
    obtain ⟨v', hv', hr⟩ := h.get h1
    rw [hv', h1, hr.int]
  · have := h.1
    rw [List.getElem?_eq_none (by simp at this; omega), List.getElem?_eq_none (by simp; omega)]

theorem did_conv_int {s d : TypeId} {k k0 : IntKind} {x : Operand} (ho : o.op = .convert s d x) (hs : P.underlying s = some (.int k0)) (hd : P.underlying d = some (.int k)) (hx : Rel g (ρ x) (ρ' x)) (hR : Rl P st.ro g st.get w.heap)
    (h : (AOp.conv (.int k) x).run st ρ = .ok (v, st')) : Did P g st w v st' ((execOp ρ' o).run P w) := by
  simp only [AOp.run] at h
  cases hxv : ρ x <;> simp only [hxv, aconv] at h <;> try (cases h; done)
  rename_i k1 n
  cases h
  rw [hxv] at hx
  have e : (execOp ρ' o).run P w = .ok (.value (.int k (k.wrap n))) w := by
    simp [execOp, ho, convert, underlying, hs, hd, hx.int, Conv.intToInt]
  rw [e]
  exact Did.same hR (.flat rfl)

theorem did_conv_same {s d : TypeId} {x : Operand} (ho : o.op = .convert s d x) (hs : P.underlying s = some .string) (hd : P.underlying d = some .string) (hx : Rel g (ρ x) (ρ' x)) (hR : Rl P st.ro g st.get w.heap)
    (h : (AOp.conv .same x).run st ρ = .ok (v, st')) : Did P g st w v st' ((execOp ρ' o).run P w) := by
  simp only [AOp.run] at h
  cases hxv : ρ x <;> simp only [hxv, aconv] at h <;> try (cases h; done)
  rename_i t
  cases h
  rw [hxv] at hx
  have e : (execOp ρ' o).run P w = .ok (.value (.string t)) w := by
    simp [execOp, ho, convert, underlying, hs, hd, hx.string]
  rw [e]
  exact Did.same hR (.flat rfl)

theorem did_strOfBytes {s d e : TypeId} {x : Operand} (ho : o.op = .convert s d x) (hs : P.underlying s = some (.slice e)) (hd : P.underlying d = some .string) (he : P.underlying e = some (.int .u8)) (hx : Rel g (ρ x) (ρ' x)) (hR : Rl P st.ro g st.get w.heap)
    (h : (AOp.conv .strOfBytes x).run st ρ = .ok (v, st')) : Did P g st w v st' ((execOp ρ' o).run P w) := by
  simp only [AOp.run] at h
  cases hxv : ρ x <;> simp only [hxv, aconv] at h <;> try (cases h; done)
  rename_i a n c
  simp only [Res.bind_eq_ok, Res.need_eq_ok, Res.pure_eq] at h
  obtain ⟨_, hc, l, hl, _, hln, t, ht, h⟩ := h
  cases h
  obtain ⟨ns, hns, rfl⟩ := bytesL_ints _ _ _ ht
  rw [hxv] at hx
  have e0 : (execOp ρ' o).run P w = ((Conv.bytesToString (ρ' x)).run P w).andThen fun v w => .ok (Next.value v) w := by
    have : ∃ a' c', ρ' x = .slice a' n c' := by
      generalize ρ' x = q at hx
      cases hx with
      | flat h => simp [AM.flat] at h
      | nilSlice s => exact ⟨_, _, rfl⟩
      | slice hG h0 hn he hr => exact ⟨_, _, rfl⟩
      | emptySlice hG h0 he hr ha => exact ⟨_, _, rfl⟩
    obtain ⟨a', c', hq⟩ := this
    simp [execOp, ho, convert, underlying, hs, hd, he, hq]
  rw [e0]
  cases a with
  | none =>
    obtain ⟨rfl, hq⟩ := hx.toNilSlice
    simp [firstL] at hl
    subst hl
    have hn0 : ns = [] := by simpa using hns.symm
    subst hn0
    rw [hq]
    have : (Conv.bytesToString (.slice none 0 0)).run P w = .ok (.string .empty) w := by simp [Conv.bytesToString]
    rw [this]
    exact Did.same hR (.flat rfl)
  | some a =>
    obtain ⟨id, of, spot⟩ := a
    cases spot with
    | some _ => simp [firstL] at hl
    | none =>
      simp only [firstL, Res.bind_eq_ok, Res.need_eq_ok] at hl
      obtain ⟨_, hc1, hl⟩ := hl
      obtain ⟨xs, hxs, hle, rfl⟩ := loadN_ok hl
      obtain ⟨G, hG, h0, hcase⟩ := hx.toSlice
      rcases hcase with ⟨cap, hq, _⟩ | ⟨rfl, _, _, a', hq, _⟩
      · obtain ⟨G', hG', hok, _⟩ := hR.cells hxs
        rw [hG] at hG'; cases hG'
        obtain ⟨l', hl', hrel, hcell⟩ := cells_at (w := w) hok hle
        rw [hns] at hrel
        have hl2 := hrel.ints
        have hload := run_loadCells_list (P := P) w _ l' hcell
        rw [hl', hl2, Nat.mul_one] at hload
        have := run_bytesToString (P := P) w _ n cap ns hload
        rw [hq, this]
        exact Did.same hR (.flat rfl)
      · have hn0 : ns = [] := by
          have : ns.length = 0 := by
            have h1 := congrArg List.length hns
            simp at h1
            omega
          exact List.eq_nil_of_length_eq_zero this
        subst hn0
        have := run_bytesToString (P := P) w a' 0 0 [] (by simp [loadCells, loadCellsFrom])
        rw [hq, this]
        exact Did.same hR (.flat rfl)

theorem did_bytesOfStr {s d e : TypeId} {x : Operand} (ho : o.op = .convert s d x) (hs : P.underlying s = some .string) (hd : P.underlying d = some (.slice e)) (he : P.underlying e = some (.int .u8)) (hx : Rel g (ρ x) (ρ' x)) (hR : Rl P st.ro g st.get w.heap)
    (hf : ∀ id, st.next ≤ id → id < st'.next → g id = none)
    (h : (AOp.conv .bytesOfStr x).run st ρ = .ok (v, st')) : Did P g st w v st' ((execOp ρ' o).run P w) := by
  simp only [AOp.run] at h
  cases hxv : ρ x <;> simp only [hxv, aconv] at h <;> try (cases h; done)
  rename_i t
  simp only [Res.bind_eq_ok, Res.need_eq_ok, Res.pure_eq] at h
  obtain ⟨_, hsz, h⟩ := h
  cases h
  have hsz' : t.size ≤ mostBytes := by simpa using hsz
  have hmb : mostBytes = 70368744177664 := rfl
  rw [hxv] at hx
  have hg0 := hf st.next (Nat.le_refl _) (by simp [St.alloc])
  have hge := grownCap_ge w t.size 0 e
  have elems : (t.data.map fun b => Value.int .u8 b.toNat).size = t.size := by simp
  -- the model's world
  have e0 : ∃ w', (execOp ρ' o).run P w = .ok (.value (.slice (some ⟨w.heap.size, 0, none⟩) t.size (grownCap w t.size 0 e))) w' ∧ w'.os = w.os ∧ w'.tape = w.tape ∧ w'.output = w.output ∧
      w'.heap = w.heap.push (.cells ((t.data.map fun b => Value.int .u8 b.toNat) ++ Array.replicate (grownCap w t.size 0 e - t.size) (Value.int IntKind.u8 0)) e (grownCap w t.size 0 e, grownCap w t.size 0 e + 1)) := by
    refine ⟨(w.drew.alloc (.cells ((t.data.map fun b => Value.int .u8 b.toNat) ++ Array.replicate (grownCap w t.size 0 e - t.size) (Value.int IntKind.u8 0)) e)).freeze ⟨w.heap.size, grownCap w t.size 0 e, none⟩ 1, ?_, rfl, rfl, rfl, ?_⟩
    · have hsh : (w.drew.alloc (.cells ((t.data.map fun b => Value.int .u8 b.toNat) ++ Array.replicate (grownCap w t.size 0 e - t.size) (Value.int IntKind.u8 0)) e)).shape? w.heap.size = some (e, grownCap w t.size 0 e) := by
        have : (w.drew.alloc (.cells ((t.data.map fun b => Value.int .u8 b.toNat) ++ Array.replicate (grownCap w t.size 0 e - t.size) (Value.int IntKind.u8 0)) e)).heap[w.heap.size]? = some (.cells ((t.data.map fun b => Value.int .u8 b.toNat) ++ Array.replicate (grownCap w t.size 0 e - t.size) (Value.int IntKind.u8 0)) e) := by
          show (w.heap.push _)[w.heap.size]? = _
          simp
        simp only [World.shape?, this]
        have : t.data.size = t.size := rfl
        simp [this]
        omega
      simp [execOp, ho, convert, underlying, hs, hd, he, hx.string, Conv.stringToBytes, Question.forced, run_newRow, markStringish, grownCap] at hsh ⊢
      rw [hsh]
      simp
    · simp only [World.freeze, World.alloc, World.drew]
      apply Array.ext_getElem?
      intro i
      simp only [if_neg (show ¬ (1 = 0) by omega), Array.getElem?_modify, Array.getElem?_push]
      by_cases hi : w.heap.size = i
      · subst hi
        simp
      · have hi2 : ¬ i = w.heap.size := fun e => hi e.symm
        simp [hi, hi2]
  obtain ⟨w', e1, h1, h2, h3, h4⟩ := e0
  rw [e1]
  have hl : (t.data.toList.map fun (b : UInt8) => Value.int IntKind.u8 (b.toNat : Int)).length = t.size := by simp
  refine ⟨_, w', g.put st.next ⟨w.heap.size, 0, t.size, grownCap w t.size 0 e⟩, .inl rfl, ?_, ?_⟩
  · have := Rel.slice (g := g.put st.next ⟨w.heap.size, 0, t.size, grownCap w t.size 0 e⟩) (id := st.next) (o := 0) (n := t.size) (s := 1) (c := grownCap w t.size 0 e) (Ghost.put_same _ _ _) (by omega) hge (by simpa using hge) (by simp)
    simpa using this
  · rw [St.get_alloc]
    refine Step.alloc hR hg0 rfl h4 h1 h2 h3 ?_
    refine ⟨(t.data.map fun b => Value.int .u8 b.toNat) ++ Array.replicate (grownCap w t.size 0 e - t.size) (Value.int IntKind.u8 0), e, (grownCap w t.size 0 e, grownCap w t.size 0 e + 1), ?_, ?_, hl, hge, ?_, ?_⟩
    · rw [h4]; simp
    · simp only [Array.size_append, elems, Array.size_replicate]; omega
    · have e2 : ((((t.data.map fun (b : UInt8) => Value.int IntKind.u8 (b.toNat : Int)) ++ Array.replicate (grownCap w t.size 0 e - t.size) (Value.int IntKind.u8 0)).toList.drop 0).take t.size) = t.data.toList.map fun (b : UInt8) => Value.int IntKind.u8 (b.toNat : Int) := by
        simp only [List.drop_zero, Array.toList_append, Array.toList_map]
        rw [List.take_append_of_le_length (by rw [hl]; exact Nat.le_refl _), List.take_of_length_le (by rw [hl]; exact Nat.le_refl _)]
      show RelL _ _ ((((t.data.map fun (b : UInt8) => Value.int IntKind.u8 (b.toNat : Int)) ++ Array.replicate (grownCap w t.size 0 e - t.size) (Value.int IntKind.u8 0)).toList.drop 0).take t.size)
      rw [e2]
      exact bytes_rel t
    · intro _ j _ hj
      simp at hj ⊢
      intro h
      omega

theorem did_rangeStr {t : TypeId} {x : Operand} (ho : o.op = .range t x) (hu : P.underlying t = some .string) (hx : Rel g (ρ x) (ρ' x)) (hR : Rl P st.ro g st.get w.heap) (hf : ∀ id, st.next ≤ id → id < st'.next → g id = none)
    (h : (AOp.rangeStr x).run st ρ = .ok (v, st')) : Did P g st w v st' ((execOp ρ' o).run P w) := by
  simp only [AOp.run] at h
  cases hxv : ρ x <;> simp only [hxv] at h <;> try (cases h; done)
  rename_i s
  cases h
  rw [hxv] at hx
  have e : (execOp ρ' o).run P w = .ok (.value (.pointer (some ⟨w.heap.size, 0, none⟩))) (w.alloc (.stringIter s 0)) := by
    simp [execOp, ho, Instr.range, underlying, hu, hx.string]
  rw [e]
  refine ⟨_, _, g.put st.next ⟨w.heap.size, 0, 0, 0⟩, .inl rfl, .ptr (G := ⟨w.heap.size, 0, 0, 0⟩) (Ghost.put_same _ _ _), ?_⟩
  rw [St.get_alloc]
  refine Step.alloc hR (hf st.next (Nat.le_refl _) (by simp [St.alloc])) (ob := .stringIter s 0) rfl rfl rfl rfl rfl ⟨?_, rfl⟩
  show (w.heap.push _)[w.heap.size]? = _
  simp

theorem did_nextStr {x : Operand} (ho : o.op = .next x true) (hx : Rel g (ρ x) (ρ' x)) (hR : Rl P st.ro g st.get w.heap)
    (h : (AOp.nextStr x).run st ρ = .ok (v, st')) : Did P g st w v st' ((execOp ρ' o).run P w) := by
  simp only [AOp.run, Res.bind_eq_ok, Res.need_eq_ok] at h
  obtain ⟨⟨b, of⟩, hp, _, hof, h⟩ := h
  have hof' : of = 0 := by simpa using hof
  subst hof'
  obtain ⟨G, hG, hq⟩ := hx.asPtr hp
  simp only at h
  split at h
  · rename_i s pos hget
    obtain ⟨G', hG', hb, hoff⟩ := hR.obj b _ hget rfl
    rw [hG] at hG'; cases hG'
    rw [hoff] at hq
    have hobj : (getObj G.blk).run P w = .ok (.stringIter s pos) w := by simp [getObj, Sem.run, hb]
    split at h
    · rename_i hlt
      simp only [Res.bind_eq_ok, Res.need_eq_ok, Res.pure_eq] at h
      obtain ⟨_, hro, h⟩ := h
      cases h
      have hset : (setObj G.blk (.stringIter s (pos + (Utf8.decode s pos).2))).run P w = .ok () { w with heap := w.heap.setIfInBounds G.blk (.stringIter s (pos + (Utf8.decode s pos).2)) } := by
        simp [setObj, Sem.run, hb]
      have e : (execOp ρ' o).run P w = .ok (.value (.tuple #[.bool true, goInt pos, .int .i32 (Utf8.decode s pos).1])) { w with heap := w.heap.setIfInBounds G.blk (.stringIter s (pos + (Utf8.decode s pos).2)) } := by
        simp [execOp, ho, Instr.next, hq, hobj, hlt, hset]
      rw [e]
      have hltb : G.blk < w.heap.size := (Array.getElem?_eq_some_iff.1 hb).1
      refine ⟨_, _, g, .inl rfl, Rel.tuple_of (c := [_, _, _]) (c' := [_, _, _]) (.cons (.flat rfl) (.cons (.flat rfl) (.cons (.flat rfl) (.nil g)))), ?_⟩
      rw [St.get_put]
      refine Step.change (o' := .strIter s (pos + (Utf8.decode s pos).2)) (w' := { w with heap := w.heap.setIfInBounds G.blk (.stringIter s (pos + (Utf8.decode s pos).2)) }) hR hget rfl (by simpa using hro) hG (by simp) (fun B hB => ?_) rfl rfl rfl (fun _ => ⟨?_, hoff⟩) _ _
      · simp only [Array.getElem?_setIfInBounds]
        rw [if_neg (fun e => hB e.symm)]
      · simp [Array.getElem?_setIfInBounds, hltb]
    · rename_i hlt
      cases h
      have e : (execOp ρ' o).run P w = .ok (.value (.tuple #[.bool false])) w := by
        simp [execOp, ho, Instr.next, hq, hobj, hlt]
      rw [e]
      exact Did.same hR (Rel.tuple_of (c := [_]) (c' := [_]) (.cons (.flat rfl) (.nil g)))
  · cases h
end
end Go.AM
