/-
  THE ABSTRACT MACHINE, 10: maps, lengths, conversions, copies, slices, numbers' greatest and least, texts gone through.
-/
import Derived.Test.YtfknooeebmdfoaaAmOpsF
import Derived.Laws.BytesString
import Derived.Laws.Slices
set_option linter.unusedVariables false
set_option linter.unusedSimpArgs false
set_option linter.unnecessarySimpa false
namespace Go.AM

section
variable {P : Program} {g : Ghost} {st st' : St} {w : World} {ρ ρ' : Operand → Value} {o : Oper} {v : Value}

theorem Rl.map (hR : Rl P st.ro g st.get w.heap) {b : Nat} {es : List (Value × Value)} (h : st.map b = .ok es) :
    ∃ G ents clock, g b = some G ∧ st.get b = some (.map es) ∧ w.heap[G.blk]? = some (.map ents clock) ∧ MapList g es ents.toList := by
  unfold St.map at h
  split at h
  · rename_i ys hy
    cases h
    obtain ⟨G, hG, ents, clock, h1, h2⟩ := hR.obj b _ hy rfl
    exact ⟨G, ents, clock, hG, hy, h1, h2⟩
  · cases h

theorem run_getObj_map {b : Nat} {ents : Array MapEntry} {clock : Nat} (h : w.heap[b]? = some (.map ents clock)) : (getObj b).run P w = .ok (.map ents clock) w := by
  simp [getObj, Sem.run, h]

theorem run_setObj_map {b : Nat} {ents : Array MapEntry} {clock : Nat} (o : Obj) (h : w.heap[b]? = some (.map ents clock)) : (setObj b o).run P w = .ok () { w with heap := w.heap.setIfInBounds b o } := by
  simp [setObj, Sem.run, h]

theorem did_look {t kt e : TypeId} {q : KeyK} {z : Value} {ok : Bool} {x k : Operand} (ho : o.op = .lookup t x k ok) (hu : P.underlying t = some (.map kt e)) (hz : zeroOf P e = some z) (hq : KeyFits P kt q)
    (hx : Rel g (ρ x) (ρ' x)) (hk : Rel g (ρ k) (ρ' k)) (hR : Rl P st.ro g st.get w.heap)
    (h : (AOp.look q z ok x k).run st ρ = .ok (v, st')) : Did P g st w v st' ((execOp ρ' o).run P w) := by
  obtain ⟨_, _, _, hzc, _⟩ := zeroOf_info hz
  simp only [AOp.run, Res.bind_eq_ok, Res.pure_eq] at h
  obtain ⟨u, h, h'⟩ := h
  cases h'
  simp only [alook, Res.bind_eq_ok, Res.need_eq_ok, Res.pure_eq] at h
  obtain ⟨_, hkey, es, hes, r, hr, h⟩ := h
  have hk' := keyOk_rel hq hkey hk
  have hc := fun em : Bool => checkKey_run (P := P) (w := w) (em := em) hq hkey 9998
  have e0 : (execOp ρ' o).run P w = ((Instr.lookup t (ρ' x) (ρ k) ok).run P w).andThen fun v w => .ok (Next.value v) w := by
    simp [execOp, ho, hk']
  rw [e0]
  have fin : ∀ ents : Array MapEntry, MapList g es ents.toList → (∀ r', (Instr.findKey kt (ρ k) ents.toList).run P w = .ok r' w →
      (Instr.lookup t (ρ' x) (ρ k) ok).run P w = match r' with
        | some (_, v) => .ok (if ok then .tuple #[v, .bool true] else v) w
        | none => .ok (if ok then .tuple #[z, .bool false] else z) w) →
      Did P g st w v st (((Instr.lookup t (ρ' x) (ρ k) ok).run P w).andThen fun v w => .ok (Next.value v) w) := by
    intro ents hm hrun
    obtain ⟨r', hfind, hfound⟩ := findKey_run (w := w) hq hkey hm hr
    have e1 := hrun r' hfind
    cases r with
    | none =>
      have : r' = none := hfound
      subst this
      have hv : v = if ok then .tuple #[z, .bool false] else z := by cases h; rfl
      subst hv
      rw [e1]
      refine ⟨_, w, g, .inl rfl, ?_, Step.refl hR _ _⟩
      cases ok
      · exact Rel.const hzc
      · exact Rel.tuple_of (c := [z, .bool false]) (c' := [z, .bool false]) (.cons (.const hzc) (.cons (.flat rfl) (.nil g)))
    | some p =>
      obtain ⟨j, u⟩ := p
      obtain ⟨en, _, _, _, hrel, rfl⟩ := hfound
      have hv : v = if ok then .tuple #[u, .bool true] else u := by cases h; rfl
      subst hv
      rw [e1]
      refine ⟨_, w, g, .inl rfl, ?_, Step.refl hR _ _⟩
      cases ok
      · exact hrel
      · exact Rel.tuple_of (c := [u, .bool true]) (c' := [en.val, .bool true]) (.cons hrel (.cons (.flat rfl) (.nil g)))
  unfold mapOf at hes
  split at hes
  · rename_i hxv
    cases hes
    rw [hxv] at hx
    refine fin #[] ⟨rfl, fun i q h => by simp at h⟩ fun r' hf => ?_
    have hf' : (Instr.findKey kt (ρ k) []).run P w = .ok r' w := hf
    cases r' with
    | none => cases ok <;> simp [Instr.lookup, underlying, hu, hx.nilMap, hc, hf', run_zeroOf hz]
    | some p => cases ok <;> simp [Instr.lookup, underlying, hu, hx.nilMap, hc, hf', run_zeroOf hz]
  · rename_i b hxv
    rw [hxv] at hx
    obtain ⟨G, hG, hq'⟩ := hx.toMap
    obtain ⟨G', ents, clock, hG', _, hb, hm⟩ := hR.map hes
    rw [hG] at hG'; cases hG'
    refine fin ents hm fun r' hf => ?_
    cases r' with
    | none => cases ok <;> simp [Instr.lookup, underlying, hu, hq', run_getObj_map hb, hc, hf, run_zeroOf hz]
    | some p => cases ok <;> simp [Instr.lookup, underlying, hu, hq', run_getObj_map hb, hc, hf, run_zeroOf hz]
  · cases hes

/-- A map of the call's own, changed. -/
theorem Step.setMap {ro : Nat} {H : AHeap} (h : Rl P ro g H w.heap) {id : Nat} {o : AObj} {G : Gh} (hid : H id = some o) (hl : o.live = true) (hro : ro ≤ id) (hG : g id = some G) {es : List (Value × Value)} {ents : Array MapEntry} {clock : Nat}
    (hlt : G.blk < w.heap.size) (hm : MapList g es ents.toList) (lo hi : Nat) :
    Step P ro g H w g (upd H id (.map es)) { w with heap := w.heap.setIfInBounds G.blk (.map ents clock) } lo hi := by
  refine Step.change (o' := .map es) (w' := { w with heap := w.heap.setIfInBounds G.blk (.map ents clock) }) h hid hl hro hG (by simp) (fun B hB => ?_) rfl rfl rfl (fun _ => ⟨ents, clock, ?_, hm⟩) lo hi
  · simp only [Array.getElem?_setIfInBounds]
    rw [if_neg (fun e => hB e.symm)]
  · simp [Array.getElem?_setIfInBounds, hlt]

theorem MapList.set {es : List (Value × Value)} {ents : List MapEntry} (h : MapList g es ents) {i : Nat} {k v v' : Value} (f : MapEntry → MapEntry) (hf : ∀ e, ents[i]? = some e → (f e).key = k ∧ (f e).val = v') (hv : Rel g v v') :
    MapList g (es.set i (k, v)) (ents.modify i f) := by
  refine ⟨by simp [h.1], fun j q hq => ?_⟩
  rw [List.getElem?_set] at hq
  rw [List.getElem?_modify]
  split at hq
  · rename_i hij
    subst hij
    split at hq
    · rename_i hlt
      cases hq
      have hlt' : i < ents.length := h.1 ▸ hlt
      refine ⟨f ents[i], by simp [hlt'], ?_⟩
      have := hf ents[i] (by simp [hlt'])
      exact ⟨this.1, this.2 ▸ hv⟩
    · cases hq
  · rename_i hij
    obtain ⟨e, he, hk, hr⟩ := h.2 j q hq
    exact ⟨e, by simp [he, hij], hk, hr⟩

theorem MapList.push {es : List (Value × Value)} {ents : List MapEntry} (h : MapList g es ents) {e : MapEntry} {k v : Value} (hk : e.key = k) (hv : Rel g v e.val) : MapList g (es ++ [(k, v)]) (ents ++ [e]) := by
  refine ⟨by simp [h.1], fun j q hq => ?_⟩
  rw [List.getElem?_append] at hq ⊢
  rw [← h.1]
  split at hq
  · rename_i hj
    rw [if_pos hj]
    exact h.2 j q hq
  · rename_i hj
    rw [if_neg hj]
    have : j - es.length = 0 := by
      rcases Nat.eq_zero_or_pos (j - es.length) with h | h
      · exact h
      · rw [List.getElem?_eq_none (by simp; omega)] at hq; cases hq
    rw [this] at hq ⊢
    simp at hq
    subst hq
    exact ⟨e, by simp, hk, hv⟩

theorem MapList.erase {es : List (Value × Value)} {ents : List MapEntry} (h : MapList g es ents) (i : Nat) : MapList g (es.eraseIdx i) (ents.eraseIdx i) := by
  refine ⟨by simp [List.length_eraseIdx, h.1], fun j q hq => ?_⟩
  rw [List.getElem?_eraseIdx] at hq ⊢
  split at hq
  · rename_i hj; rw [if_pos hj]; exact h.2 j q hq
  · rename_i hj; rw [if_neg hj]; exact h.2 _ q hq

theorem did_mapSet {t kt e : TypeId} {q : KeyK} {m k x : Operand} (ho : o.op = .mapUpdate t m k x ∨ o.op = .insert t m k x) (hu : P.underlying t = some (.map kt e)) (hq : KeyFits P kt q)
    (hm : Rel g (ρ m) (ρ' m)) (hk : Rel g (ρ k) (ρ' k)) (hx : Rel g (ρ x) (ρ' x)) (hR : Rl P st.ro g st.get w.heap)
    (h : (AOp.mapSet q m k x).run st ρ = .ok (v, st')) : Did P g st w v st' ((execOp ρ' o).run P w) := by
  simp only [AOp.run, Res.bind_eq_ok, Res.pure_eq] at h
  obtain ⟨s2, h, h'⟩ := h
  cases h'
  unfold amapSet at h
  split at h
  · rename_i b hmv
    simp only [Res.bind_eq_ok, Res.need_eq_ok, Res.pure_eq] at h
    obtain ⟨es, hes, _, hkey, _, hro, r, hr, h⟩ := h
    cases h
    rw [hmv] at hm
    obtain ⟨G, hG, hm'⟩ := hm.toMap
    obtain ⟨G', ents, clock, hG', hget, hb, hml⟩ := hR.map hes
    rw [hG] at hG'; cases hG'
    have hro' : st.ro ≤ b := by simpa using hro
    have hk' := keyOk_rel hq hkey hk
    have hc := checkKey_run (P := P) (w := w) (em := false) hq hkey 9998
    obtain ⟨r', hfind, hfound⟩ := findKey_run (w := w) hq hkey hml hr
    have hlt : G.blk < w.heap.size := (Array.getElem?_eq_some_iff.1 hb).1
    have e0 : (execOp ρ' o).run P w = ((Instr.mapUpdate t (ρ' m) (ρ k) (ρ' x)).run P w).andThen fun _ w => .ok Next.skip w := by
      rcases ho with ho | ho <;> simp [execOp, ho, hk']
    rw [e0, hm']
    cases r with
    | none =>
      have : r' = none := hfound
      subst this
      have e1 : (Instr.mapUpdate t (.map (some G.blk)) (ρ k) (ρ' x)).run P w = .ok () { w with heap := w.heap.setIfInBounds G.blk (.map (ents.push { key := ρ k, val := ρ' x, born := clock }) (clock + 1)) } := by
        simp [Instr.mapUpdate, underlying, hu, run_getObj_map hb, hc, hfind, run_setObj_map _ hb]
      rw [e1]
      refine ⟨undef, _, g, .inr ⟨rfl, rfl⟩, .nothing _, ?_⟩
      rw [St.get_put]
      exact Step.setMap hR hget rfl hro' hG hlt (by simpa using hml.push (e := { key := ρ k, val := ρ' x, born := clock }) rfl hx) _ _
    | some p =>
      obtain ⟨j, u⟩ := p
      obtain ⟨en, _, hen, hkn, hrel, rfl⟩ := hfound
      have hen' : ents[j]? = some en := by simpa using hen
      have hstay : (Instr.keyThatStays (((ents[j]?).map (·.key)).getD (ρ k)) (ρ k)).run P w = .ok (ρ k) w := by
        simp [Instr.keyThatStays, hen', hkn, sameBits_key hq hkey 9999]
      have e1 : (Instr.mapUpdate t (.map (some G.blk)) (ρ k) (ρ' x)).run P w = .ok () { w with heap := w.heap.setIfInBounds G.blk (.map (ents.modify j fun e => { e with key := ρ k, val := ρ' x }) clock) } := by
        simp [Instr.mapUpdate, underlying, hu, run_getObj_map hb, hc, hfind, hstay, run_setObj_map _ hb]
      rw [e1]
      refine ⟨undef, _, g, .inr ⟨rfl, rfl⟩, .nothing _, ?_⟩
      show Step P st.ro g st.get w g (st.put b (.map (es.set j (ρ k, ρ x)))).get _ st.next st.next
      rw [St.get_put]
      exact Step.setMap hR hget rfl hro' hG hlt (by
        have := hml.set (i := j) (k := ρ k) (v := ρ x) (v' := ρ' x) (fun e => { e with key := ρ k, val := ρ' x }) (fun e _ => ⟨rfl, rfl⟩) hx
        simpa using this) _ _
  · cases h

theorem did_delete {t kt e : TypeId} {q : KeyK} {m k : Operand} (ho : (execOp ρ' o).run P w = ((Builtin.delete_ #[t, kt] o.type #[ρ' m, ρ' k]).run P w).andThen fun v w => .ok (Next.value v) w)
    (hu : P.underlying t = some (.map kt e)) (hq : KeyFits P kt q)
    (hm : Rel g (ρ m) (ρ' m)) (hk : Rel g (ρ k) (ρ' k)) (hR : Rl P st.ro g st.get w.heap)
    (h : (AOp.delete q m k).run st ρ = .ok (v, st')) : Did P g st w v st' ((execOp ρ' o).run P w) := by
  simp only [AOp.run, Res.bind_eq_ok, Res.pure_eq] at h
  obtain ⟨s2, h, h'⟩ := h
  cases h'
  rw [ho]
  unfold adelete at h
  split at h
  · rename_i hmv
    simp only [Res.bind_eq_ok, Res.need_eq_ok, Res.pure_eq] at h
    obtain ⟨_, hkey, h⟩ := h
    cases h
    rw [hmv] at hm
    have hk' := keyOk_rel hq hkey hk
    have hc := checkKey_run (P := P) (w := w) (em := true) hq hkey 9998
    have e1 : (Builtin.delete_ #[t, kt] o.type #[ρ' m, ρ' k]).run P w = .ok (.tuple #[]) w := by
      simp [Builtin.delete_, underlying, hu, hm.nilMap, hk', hc]
    rw [e1]
    exact ⟨_, w, g, .inl rfl, .nothing _, Step.refl hR _ _⟩
  · rename_i b hmv
    simp only [Res.bind_eq_ok, Res.need_eq_ok, Res.pure_eq] at h
    obtain ⟨es, hes, _, hkey, _, hro, r, hr, h⟩ := h
    cases h
    rw [hmv] at hm
    obtain ⟨G, hG, hm'⟩ := hm.toMap
    obtain ⟨G', ents, clock, hG', hget, hb, hml⟩ := hR.map hes
    rw [hG] at hG'; cases hG'
    have hro' : st.ro ≤ b := by simpa using hro
    have hk' := keyOk_rel hq hkey hk
    have hc := fun em => checkKey_run (P := P) (w := w) (em := em) hq hkey 9998
    obtain ⟨r', hfind, hfound⟩ := findKey_run (w := w) hq hkey hml hr
    have hlt : G.blk < w.heap.size := (Array.getElem?_eq_some_iff.1 hb).1
    rw [hm']
    cases r with
    | none =>
      have : r' = none := hfound
      subst this
      have e1 : (Builtin.delete_ #[t, kt] o.type #[.map (some G.blk), ρ' k]).run P w = .ok (.tuple #[]) { w with heap := w.heap.setIfInBounds G.blk (.map ents clock) } := by
        simp [Builtin.delete_, underlying, hu, hk', run_getObj_map hb, hc, hfind, run_setObj_map _ hb]
      rw [e1]
      refine ⟨_, _, g, .inl rfl, .nothing _, ?_⟩
      rw [St.get_put]
      exact Step.setMap hR hget rfl hro' hG hlt hml _ _
    | some p =>
      obtain ⟨j, u⟩ := p
      obtain ⟨en, _, hen, hkn, hrel, rfl⟩ := hfound
      have e1 : (Builtin.delete_ #[t, kt] o.type #[.map (some G.blk), ρ' k]).run P w = .ok (.tuple #[]) { w with heap := w.heap.setIfInBounds G.blk (.map (ents.eraseIdxIfInBounds j) clock) } := by
        simp [Builtin.delete_, underlying, hu, hk', run_getObj_map hb, hc, hfind, run_setObj_map _ hb]
      rw [e1]
      refine ⟨_, _, g, .inl rfl, .nothing _, ?_⟩
      show Step P st.ro g st.get w g (st.put b (.map (es.eraseIdx j))).get _ st.next st.next
      rw [St.get_put]
      exact Step.setMap hR hget rfl hro' hG hlt (by
        have := hml.erase j
        have hj : j < ents.size := by
          have : ents[j]? = some en := by simpa using hen
          exact (Array.getElem?_eq_some_iff.1 this).1
        simpa [Array.eraseIdxIfInBounds, hj] using this) _ _
  · cases h
end
end Go.AM
