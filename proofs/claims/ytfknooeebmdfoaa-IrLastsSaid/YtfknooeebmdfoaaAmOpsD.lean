/-
  THE ABSTRACT MACHINE, 7: append, copy, clear, make.
-/
import Derived.Test.YtfknooeebmdfoaaAmOpsC
set_option linter.unusedVariables false
set_option linter.unusedSimpArgs false
set_option linter.unnecessarySimpa false
namespace Go.AM

section
variable {P : Program} {g : Ghost} {st st' : St} {w : World} {ρ ρ' : Operand → Value} {o : Oper} {v : Value}

theorem run_append_in {t u ty e : TypeId} {d : TypeDesc} {s m n c : Nat} {a : Option Addr} {y' : Value} {new : List Value} {w1 : World} (ht : P.underlying t = some (.slice e)) (hu : P.underlying u = some d) (hd : (∃ x, d = .slice x) ∨ d = .string)
    (hs : szOf P e = some s) (hm : (Builtin.lenOf y').run P w = .ok m w) (hf : (Builtin.firstCells s m y').run P w = .ok new.toArray w) (hroom : n + m ≤ c)
    (hst : ∀ b, a = some b → (storeCells (b.add (n * s)) new).run P w = .ok () w1) (hn : a = none → w1 = w) :
    (Builtin.append_ #[t, u] ty #[.slice a n c, y']).run P w = .ok (.slice a (n + m) c) w1 := by
  cases a with
  | none =>
    have := hn rfl
    subst this
    rcases hd with ⟨q, rfl⟩ | rfl <;> simp [Builtin.append_, underlying, ht, hu, run_sizeOf hs, hm, hf, hroom]
  | some b =>
    have h1 := hst b rfl
    rcases hd with ⟨q, rfl⟩ | rfl <;> simp [Builtin.append_, underlying, ht, hu, run_sizeOf hs, hm, hf, hroom, h1]

theorem run_append_out {t u ty e : TypeId} {d : TypeDesc} {s m n c : Nat} {a : Option Addr} {y' z : Value} {i : TypeInfo} {old new : List Value} (ht : P.underlying t = some (.slice e)) (hu : P.underlying u = some d) (hd : (∃ x, d = .slice x) ∨ d = .string)
    (hs : szOf P e = some s) (hi : P.info? e = some i) (hz : zeroOf P e = some z) (hm : (Builtin.lenOf y').run P w = .ok m w) (hf : (Builtin.firstCells s m y').run P w.drew = .ok new.toArray w.drew)
    (ho : (Builtin.firstCells s n (.slice a n c)).run P w.drew = .ok old.toArray w.drew) (hroom : c < n + m) (hb0 : 0 < i.bytes) (hb : (n + m) * i.bytes ≤ mostBytes) :
    (Builtin.append_ #[t, u] ty #[.slice a n c, y']).run P w = .ok (.slice (some ⟨w.heap.size, 0, none⟩) (n + m) (grownCap w (n + m) c e))
      (w.drew.alloc (.cells (old.toArray ++ new.toArray ++ Builtin.zeroCells z.cells (grownCap w (n + m) c e - (n + m))) e)) := by
  have h1 : ¬ (n + m ≤ c) := by omega
  have h2 : n + m ≤ (n + m) * i.bytes := Nat.le_mul_of_pos_right _ hb0
  have h3 : ¬ ((9223372036854775807 : Int) < ((n : Int) + (m : Int))) := by
    have : mostBytes = 70368744177664 := rfl
    omega
  have h4 := growslice_fits (need := n + m) (old := c) (bytes := i.bytes) hroom (by have : mostBytes = 70368744177664 := rfl; omega)
  have h5 : ¬ (281474976710656 < Builtin.nextslicecap (n + m) c * i.bytes) := by omega
  have hz' := run_zeroOf (P := P) (w := w.drew) hz
  rcases hd with ⟨q, rfl⟩ | rfl <;>
    simp [Builtin.append_, underlying, ht, hu, run_sizeOf hs, hm, h1, h3, typeInfo, hi, h5, Question.forced, hf, ho, hz', newRow, grownCap] <;>
    (congr 2; apply Array.ext'; simp [List.append_assoc])

/-- What was there, and what is laid behind it. -/
theorem seg_more {arr : List Value} {A k : Nat} {vs : List Value} (h : A + k + vs.length ≤ arr.length) :
    ((splice arr (A + k) vs).drop A).take (k + vs.length) = (arr.drop A).take k ++ vs := by
  apply List.ext_getElem?
  intro i
  rw [List.getElem?_take, List.getElem?_drop, splice_get (by omega), List.getElem?_append, List.length_take, List.length_drop]
  have hm : min k (arr.length - A) = k := by omega
  rw [hm]
  by_cases hi : i < k
  · rw [if_pos (by omega), if_pos (by omega), if_pos hi, List.getElem?_take, if_pos hi, List.getElem?_drop]
  · rw [if_neg hi]
    by_cases h2 : i < k + vs.length
    · rw [if_pos h2, if_neg (by omega), if_pos (by omega)]; congr 1; omega
    · rw [if_neg h2, List.getElem?_eq_none (by omega)]

theorem zeroCells_size (z : Array Value) (n : Nat) : (Builtin.zeroCells z n).size = n * z.size := by simp [Builtin.zeroCells]

theorem did_append {t u ty e : TypeId} {d : TypeDesc} {s b : Nat} {x y : Operand} {z : Value} (ho : (execOp ρ' o).run P w = ((Builtin.append_ #[t, u] ty #[ρ' x, ρ' y]).run P w).andThen fun v w => .ok (Next.value v) w)
    (ht : P.underlying t = some (.slice e)) (hu : P.underlying u = some d) (hd : (∃ x, d = .slice x) ∨ d = .string) (hs : szOf P e = some s) (hby : bytesOf P e = some b) (hb0 : b ≠ 0) (hz : zeroOf P e = some z) (hzs : z.cells.size = s)
    (hx : Rel g (ρ x) (ρ' x)) (hy : Rel g (ρ y) (ρ' y)) (hR : Rl P st.ro g st.get w.heap) (hf : ∀ id, st.next ≤ id → id < st'.next → g id = none) (hro : st.ro ≤ st.next)
    (h : aappend st s b (ρ x) (ρ y) = .ok (v, st')) : Did P g st w v st' ((execOp ρ' o).run P w) := by
  rw [ho]
  obtain ⟨i, hi, hsz, hs0⟩ := szOf_info hs
  have hib : i.bytes = b := by simpa [bytesOf, hi] using hby
  obtain ⟨iz, hiz, hzz, hzc, hzt⟩ := zeroOf_info hz
  unfold aappend at h
  split at h
  case h_2 => cases h
  rename_i base n s' hxv
  rw [hxv] at hx
  simp only [Res.bind_eq_ok, Res.need_eq_ok] at h
  obtain ⟨m, hm, new, hnew, _, hnl, h⟩ := h
  have hnl' : new.length = m * s := by simpa using hnl
  have hlen := lenL_run (P := P) (w := w) hy hm
  obtain ⟨new', hfn, hrn⟩ := firstL_run hy hm (Nat.le_refl _) hnew hR
  split at h
  · rename_i hm0
    subst hm0
    cases h
    have hn0 : new' = [] := by have := hrn.1; rw [hnl'] at this; simpa using this.symm
    subst hn0
    -- nothing is appended
    have key : ∃ a c, ρ' x = .slice a n c ∧ n ≤ c := by
      generalize ρ' x = q at hx
      cases hx with
      | flat h => simp [AM.flat] at h
      | nilSlice s => exact ⟨_, _, rfl, Nat.le_refl _⟩
      | slice hG h0 hn he hr => exact ⟨_, _, rfl, hn⟩
      | emptySlice hG h0 he hr ha => exact ⟨_, _, rfl, Nat.le_refl _⟩
    obtain ⟨a, c, hq, hnc⟩ := key
    rw [hq, run_append_in (w1 := w) ht hu hd hs hlen hfn (by omega) (fun b _ => by simp [storeCells]) (fun _ => rfl)]
    refine ⟨_, w, g, .inl rfl, ?_, Step.refl hR _ _⟩
    rw [hxv, Nat.add_zero, ← hq]
    exact hx
  · rename_i hm0
    simp only [Res.bind_eq_ok, Res.need_eq_ok] at h
    obtain ⟨_, hbytes, _, hk, h⟩ := h
    have hbytes' : (n + m) * i.bytes ≤ mostBytes := by rw [hib]; simpa using hbytes
    have hms : 0 < m * s := Nat.mul_pos (by omega) (by omega)
    obtain ⟨new2, hfn2, hrn2⟩ := firstL_run (w := w.drew) hy hm (Nat.le_refl _) hnew hR
    -- a new row, behind a draw
    have fresh : ∀ (g0 : Ghost) (H0 : AHeap) (xs old : List Value) (a : Option Addr) (c : Nat), Rl P st.ro g0 H0 w.heap → g0 st.next = none → RelL g0 xs (old ++ new2) → xs.length = (n + m) * s → c < n + m →
        (Builtin.firstCells s n (.slice a n c)).run P w.drew = .ok old.toArray w.drew →
        ∃ v' w' g', ((Builtin.append_ #[t, u] ty #[.slice a n c, ρ' y]).run P w).andThen (fun v w => .ok (Next.value v) w) = .ok (Next.value v') w' ∧
          Rel g' (.slice (some ⟨st.next, 0, none⟩) (n + m) s) v' ∧ Step P st.ro g0 H0 w g' (upd H0 st.next (.cells xs)) w' st.next (st.next + 1) := by
      intro g0 H0 xs old a c hR0 hg0 hrel hxl hc hold
      have hge := grownCap_ge w (n + m) c e
      rw [run_append_out ht hu hd hs hi hz hlen hfn2 hold hc (by omega) hbytes']
      refine ⟨_, _, g0.put st.next ⟨w.heap.size, 0, (n + m) * s, grownCap w (n + m) c e * s⟩, rfl, ?_, ?_⟩
      · have := Rel.slice (g := g0.put st.next ⟨w.heap.size, 0, (n + m) * s, grownCap w (n + m) c e * s⟩) (id := st.next) (o := 0) (n := n + m) (s := s) (c := grownCap w (n + m) c e) (Ghost.put_same _ _ _) (by omega) hge
          (by simp; exact Nat.mul_le_mul_right _ hge) (by simp)
        simpa using this
      · have hstep := Step.alloc (w' := w.drew.alloc (.cells (old.toArray ++ new2.toArray ++ Builtin.zeroCells z.cells (grownCap w (n + m) c e - (n + m))) e)) (o := .cells xs) (G := ⟨w.heap.size, 0, (n + m) * s, grownCap w (n + m) c e * s⟩) hR0 hg0
          (ob := .cells (old.toArray ++ new2.toArray ++ Builtin.zeroCells z.cells (grownCap w (n + m) c e - (n + m))) e) rfl rfl rfl rfl rfl ?_
        · exact hstep
        · have hol : old.length + new2.length = (n + m) * s := by have := hrel.1; simp at this; omega
          refine ⟨old.toArray ++ new2.toArray ++ Builtin.zeroCells z.cells (grownCap w (n + m) c e - (n + m)), e, (0, 0), ?_, ?_, hxl, Nat.mul_le_mul_right _ hge, ?_, fun _ j _ _ => by simp⟩
          · show (w.heap.push _)[w.heap.size]? = _
            simp
          · have he : grownCap w (n + m) c e * s = (n + m) * s + (grownCap w (n + m) c e - (n + m)) * s := by rw [← Nat.add_mul]; congr 1; omega
            simp [zeroCells_size, hzs, he, ← hol]
          · have e1 : ((((old.toArray ++ new2.toArray ++ Builtin.zeroCells z.cells (grownCap w (n + m) c e - (n + m))).toList.drop 0)).take ((n + m) * s)) = old ++ new2 := by
              simp only [List.drop_zero, Array.toList_append]
              rw [List.take_append_of_le_length (by simp; omega), List.take_of_length_le (by simp; omega)]
            show RelL _ xs (((((old.toArray ++ new2.toArray ++ Builtin.zeroCells z.cells (grownCap w (n + m) c e - (n + m))).toList.drop 0)).take ((n + m) * s)))
            rw [e1]
            exact hrel.mono (Ghost.le_put hg0 _)
    cases base with
    | none =>
      simp only [Res.bind_eq_ok, Res.need_eq_ok, Res.pure_eq] at h
      obtain ⟨_, hn0, h⟩ := h
      cases h
      obtain ⟨rfl, hq⟩ := hx.toNilSlice
      have hfresh := hf st.next (Nat.le_refl _) (by simp [St.alloc])
      rw [hq]
      obtain ⟨v', w', g', he, hr, hst⟩ := fresh g st.get new [] none 0 hR hfresh (by simpa using hrn2) (by simpa using hnl') (by omega) (by simp [Builtin.firstCells])
      rw [he]
      refine ⟨v', w', g', .inl rfl, by simpa using hr, ?_⟩
      rw [St.get_alloc]
      exact hst
    | some a =>
      obtain ⟨id, of, spot⟩ := a
      cases spot with
      | some _ => cases h
      | none =>
        simp only [Res.bind_eq_ok, Res.need_eq_ok] at h
        obtain ⟨_, hss, xs, hxs, _, hroid, h⟩ := h
        have hss' : s' = s := by simpa using hss
        subst hss'
        have hroid' : st.ro ≤ id := by simpa using hroid
        obtain ⟨G, hG, hok, hget⟩ := hR.cells hxs
        have hok0 := hok
        obtain ⟨arr, T, fz, b1, b2, b3, b4, b5, b6⟩ := hok
        obtain ⟨G', hG', h0, hcase⟩ := hx.toSlice
        rw [hG] at hG'; cases hG'
        split at h
        · rename_i hle
          simp only [Res.bind_eq_ok, Res.pure_eq] at h
          obtain ⟨st2, hst2, h⟩ := h
          cases h
          obtain ⟨w1, hw1, hstep, hnx, hro2⟩ := storeN_run hst2 hrn hG hR
          rcases hcase with ⟨c, hq, hnc, hext, hroom⟩ | ⟨rfl, hext, _, a', hq, _⟩
          · have hcm : n + m ≤ c := by
              have : (n + m) * s' ≤ c * s' := by omega
              exact Nat.le_of_mul_le_mul_right this (by omega)
            rw [hq, run_append_in (w1 := w1) ht hu hd hs hlen hfn hcm (fun b hb => by cases hb; rw [Addr.add_lit, Nat.add_assoc]; exact hw1) (fun hb => by cases hb)]
            refine ⟨_, w1, g, .inl rfl, .slice hG h0 hcm hext hroom, ?_⟩
            rw [hnx]
            exact hstep _ _
          · exfalso
            have : 0 < m * s' := hms
            simp at hle
            omega
        · rename_i hle
          simp only [Res.bind_eq_ok, Res.need_eq_ok, Res.pure_eq] at h
          obtain ⟨_, hend, h⟩ := h
          cases h
          have hend' : of + n * s' = xs.length := by simpa using hend
          have hfresh := hf st.next (Nat.le_refl _) (by simp [St.alloc, St.put])
          have hne : id ≠ st.next := fun e => by rw [e, hfresh] at hG; cases hG
          have hgets : ((st.put id .dead).alloc (.cells (xs.drop of ++ new))).get = upd (upd st.get id .dead) st.next (.cells (xs.drop of ++ new)) := by
            rw [St.get_alloc, St.get_put]; rfl
          have hdl : (xs.drop of).length = n * s' := by simp; omega
          have hkill : Step P st.ro g st.get w g (upd st.get id .dead) w st.next st.next := Step.kill hR hget rfl hroid' hG _ _
          have finish : ∀ (old : List Value) (a : Option Addr) (c : Nat), RelL g (xs.drop of) old → c < n + m → ρ' x = .slice a n c →
              (Builtin.firstCells s' n (.slice a n c)).run P w.drew = .ok old.toArray w.drew →
              Did P g st w (.slice (some ⟨st.next, 0, none⟩) (n + m) s') ((st.put id .dead).alloc (.cells (xs.drop of ++ new))) (((Builtin.append_ #[t, u] ty #[ρ' x, ρ' y]).run P w).andThen fun v w => .ok (Next.value v) w) := by
            intro old a c hrel hc hq hfo
            obtain ⟨v', w', g', he, hr, hst⟩ := fresh g (upd st.get id .dead) (xs.drop of ++ new) old a c hkill.rl hfresh (hrel.append hrn2) (by rw [List.length_append, hdl, hnl', Nat.add_mul]) hc hfo
            rw [hq, he]
            refine ⟨v', w', g', .inl rfl, hr, ?_⟩
            rw [hgets]
            exact hkill.trans hst (Nat.le_refl _) (Nat.le_succ _)
          rcases hcase with ⟨c, hq, hnc, hext, hroom⟩ | ⟨rfl, hext, _, a', hq, _⟩
          · by_cases hcm : n + m ≤ c
            · have hnl2 : new'.length = m * s' := by rw [← hrn.1, hnl']
              have hfit : (n + m) * s' ≤ c * s' := Nat.mul_le_mul_right _ hcm
              have hnm : (n + m) * s' = n * s' + m * s' := Nat.add_mul _ _ _
              have hst1 := run_storeCells_fz (P := P) G.blk (G.off + of + n * s') T fz new' 0 arr w b1 (by omega) (fun j hj1 hj2 => b6 hroid' j (by omega) (by omega)) (hrn.oneCells hk)
              rw [hq, run_append_in ht hu hd hs hlen hfn hcm (fun b hb => by cases hb; rw [Addr.add_lit]; exact hst1) (fun hb => by cases hb)]
              refine ⟨_, _, g.put st.next ⟨G.blk, G.off + of, (n + m) * s', G.room - of⟩, .inl rfl, ?_, ?_⟩
              · have := Rel.slice (g := g.put st.next ⟨G.blk, G.off + of, (n + m) * s', G.room - of⟩) (id := st.next) (o := 0) (n := n + m) (s := s') (c := c) (Ghost.put_same _ _ _) h0 hcm (by simp; omega) (by simp; omega)
                simpa using this
              · rw [hgets]
                refine Step.move hR hget rfl hroid' hro hG hfresh rfl (by simp) (fun B hB => setRow_other w G.blk B _ hB) rfl rfl rfl ?_
                refine ⟨(arr.toList.take (G.off + of + n * s' + 0) ++ new' ++ arr.toList.drop (G.off + of + n * s' + 0 + new'.length)).toArray, T, fz, setRow_heap w G.blk arr _ T fz b1, ?_, ?_, ?_, ?_, fun _ j hj1 hj2 => b6 hroid' j (by simp at hj1; omega) (by simp at hj2; omega)⟩
                · simp; omega
                · rw [List.length_append, hdl, hnl', hnm]
                · simp; omega
                · have e1 : (arr.toList.take (G.off + of + n * s' + 0) ++ new' ++ arr.toList.drop (G.off + of + n * s' + 0 + new'.length)) = splice arr.toList (G.off + of + n * s') new' := by simp [splice]
                  show RelL _ (xs.drop of ++ new) ((((arr.toList.take (G.off + of + n * s' + 0) ++ new' ++ arr.toList.drop (G.off + of + n * s' + 0 + new'.length)).toArray.toList.drop (G.off + of)).take ((n + m) * s')))
                  rw [e1, List.toList_toArray, hnm, ← hnl2, seg_more (by simp; omega)]
                  have e2 : (arr.toList.drop (G.off + of)).take (n * s') = ((arr.toList.drop G.off).take G.ext).drop of := by
                    rw [List.drop_take, List.drop_drop]
                    congr 1
                    omega
                  rw [e2]
                  exact ((b5.drop of).append hrn).mono (Ghost.le_put hfresh _)
            · obtain ⟨l', hl', hrel, hcell⟩ := cells_at (w := w.drew) (of := of) (n := n * s') hok0 (by omega)
              have e2 : (xs.drop of).take (n * s') = xs.drop of := List.take_of_length_le (by omega)
              rw [e2] at hrel
              refine finish l' _ c hrel (by omega) hq ?_
              have := run_loadCells_list (P := P) w.drew _ l' hcell
              rw [hl'] at this
              simpa [Builtin.firstCells] using this
          · have hd0 : xs.drop of = [] := List.drop_eq_nil_of_le (by omega)
            refine finish [] _ 0 (by rw [hd0]; exact .nil g) (by omega) hq ?_
            simp [Builtin.firstCells, loadCells, loadCellsFrom]
end
end Go.AM
