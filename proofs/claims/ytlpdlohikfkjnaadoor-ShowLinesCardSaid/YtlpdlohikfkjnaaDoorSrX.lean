/-
 What the machine has read of memory, the model's memory holds.
 show.Instr, show.Last, show.Program do as the machine is told.
 The calls of show.Instr, show.Last, show.Program.
-/
import Derived.Test.YtlpdlohikfkjnaaDoorTx
import Derived.Test.YtlpdlohikfkjnaaDoorSd
import Derived.Test.YtlpdlohikfkjnaaDoorPuX
import Derived.Test.YtlpdlohikfkjnaaDoorLxX
section
set_option linter.unusedVariables false
set_option linter.unusedSimpArgs false
set_option linter.unusedSectionVars false
namespace Go.Proofs.YtlpdlohikfkjnaaDoor.Sh
open Go Go.AM Go.Proofs Go.RowKit Go.Lib
theorem rdOf_some {st : St} {b : Nat} {xs : List Value} (h : rdOf st b = some xs) : st.get b = some (.cells xs) := by
 unfold rdOf at h
 split at h
 ·rename_i hq; cases h; exact hq
 ·cases h
theorem cell_rel {hi : Nat} {st : St} {g : Ghost} {w : World} (hI : Inv0 pg hi st g w) {b : Nat} {xs : List Value} (h : rdOf st b = some xs) : ∃ G, g b = some G ∧ G.blk < w.heap.size ∧ xs.length = G.ext ∧ ∀ (i : Nat) x, xs[i]? = some x → ∃ x', w.cell? ⟨G.blk, G.off + i, none⟩ = some x' ∧ Rel g x x' := by
 obtain ⟨G, hG, hok⟩ := hI.rl.obj b _ (rdOf_some h) rfl
 have hlt := hok.lt rfl
 obtain ⟨arr, T, fz, h1, h2, h3, h4, h5, _⟩ := hok
 refine ⟨G, hG, hlt, h3, fun i x hx => ?_⟩
 obtain ⟨x', hx', hr⟩ := h5.get hx
 have hi : i < xs.length := (List.getElem?_eq_some_iff.1 hx).1
 rw [List.getElem?_take, if_pos (by omega), List.getElem?_drop] at hx'
 refine ⟨x', ?_, hr⟩
 rw [cell_of_heap h1]
 simpa using hx'
theorem nil_rel {g : Ghost} {n s : Nat} {v' : Value} (h : Rel g (.slice none n s) v') : ∃ a c, v' = .slice a n c ∧ n = 0 := by
 cases h with
 | flat h => simp [AM.flat] at h
 | nilSlice => exact ⟨_, _, rfl, rfl⟩
theorem rows_rel {hi : Nat} {st : St} {g : Ghost} {w : World} (hI : Inv0 pg hi st g w) {s : Nat} {v v' : Value} {css : List (List Value)} (h : rows (rdOf st) s v = some css) (hv : Rel g v v') :
 (css = [] ∧ ∃ a c, v' = .slice a 0 c) ∨ ∃ k o c, k < w.heap.size ∧ v' = .slice (some ⟨k, o, none⟩) css.length c ∧ ∀ (j : Nat) cs, css[j]? = some cs → ∀ (i : Nat) x, cs[i]? = some x → ∃ x', w.cell? ⟨k, o + j * s + i, none⟩ = some x' ∧ Rel g x x' := by
 unfold rows at h
 split at h
 ·rename_i c
  cases h
  obtain ⟨a, c', rfl, _⟩ := nil_rel hv
  exact .inl ⟨rfl, a, c', rfl⟩
 ·rename_i b o n s'
  cases hb : rdOf st b with
  | none => rw [hb] at h; cases h
  | some xs =>
    rw [hb] at h
    simp only [Option.bind_some] at h
    split at h
    ·rename_i hc
     obtain ⟨rfl, hle⟩ := hc
     cases h
     obtain ⟨G, hG, hlt, hlen, hcell⟩ := cell_rel hI hb
     have key : ∀ (j : Nat) cs, ((List.range n).map fun j => (xs.drop (o + j * s')).take s')[j]? = some cs → ∀ (i : Nat) x, cs[i]? = some x → ∃ x', w.cell? ⟨G.blk, G.off + o + j * s' + i, none⟩ = some x' ∧ Rel g x x' := fun j cs hj i x hx => by
      rw [List.getElem?_map] at hj
      cases hr : (List.range n)[j]? with
      | none => rw [hr] at hj; cases hj
      | some q =>
        have hjn := (List.getElem?_eq_some_iff.1 hr).1
        rw [List.length_range] at hjn
        rw [List.getElem?_range hjn] at hr
        cases hr
        rw [List.getElem?_range hjn] at hj
        cases hj
        rw [List.getElem?_take] at hx
        split at hx
        ·rw [List.getElem?_drop] at hx
         have := hcell _ _ hx
         have e : G.off + o + j * s' + i = G.off + (o + j * s' + i) := by omega
         rw [e]
         exact this
        ·cases hx
     have hl : ((List.range n).map fun j => (xs.drop (o + j * s')).take s').length = n := by simp
     cases hv with
     | flat h => simp [AM.flat] at h
     | slice h hs hn he hr =>
       rw [hG] at h; cases h
       exact .inr ⟨_, _, _, hlt, by rw [hl], key⟩
     | emptySlice h hs he hr => exact .inl ⟨by simp, _, _, rfl⟩
    ·cases h
 ·cases h
end Go.Proofs.YtlpdlohikfkjnaaDoor.Sh
end
section
set_option linter.unusedVariables false
set_option linter.unusedSimpArgs false
set_option linter.unusedSectionVars false
namespace Go.Proofs.YtlpdlohikfkjnaaDoor.Sh
open Go Go.AM Go.Proofs Go.RowKit Go.Lib
theorem slice0_rel {g : Ghost} {p : Option Addr} {s : Nat} {v' : Value} (h : Rel g (.slice p 0 s) v') : ∃ a c, v' = .slice a 0 c := by
 cases h with
 | flat h => simp [AM.flat] at h
 | nilSlice => exact ⟨_, _, rfl⟩
 | slice => exact ⟨_, _, rfl⟩
 | emptySlice => exact ⟨_, _, rfl⟩
theorem decIn_cs {cs : List Value} {x : In} (h : decIn cs = some x) : cs = x.cs := by
 unfold decIn at h
 split at h
 ·cases h; rfl
 ·cases h
theorem decLa_cs {cs : List Value} {x : La} (h : decLa cs = some x) : cs = [.int .u8 x.k, .int .i64 x.a, .int .i64 x.y, .int .i64 x.n] := by
 unfold decLa at h
 split at h
 ·cases h; rfl
 ·cases h
theorem decAll_in : ∀ {cx : List (List Value)} {l : List In}, decAll decIn cx = some l → cx = l.map In.cs := by
 intro cx
 induction cx with
 | nil => intro l h; cases h; rfl
 | cons c cx ih =>
   intro l h
   unfold decAll at h
   cases hc : decIn c with
   | none => rw [hc] at h; cases h
   | some a =>
     rw [hc] at h
     cases hr : decAll decIn cx with
     | none => rw [hr] at h; cases h
     | some r => rw [hr] at h; cases h; rw [List.map_cons, ← ih hr, decIn_cs hc]
theorem decAll_at {r : Rdr} : ∀ {css : List (List Value)} {bs : List Bl}, decAll (decBl r) css = some bs → css.length = bs.length ∧ ∀ (j : Nat) cs b, css[j]? = some cs → bs[j]? = some b → decBl r cs = some b := by
 intro css
 induction css with
 | nil => intro bs h; cases h; exact ⟨rfl, fun j cs b h => by simp at h⟩
 | cons c css ih =>
   intro bs h
   unfold decAll at h
   cases hc : decBl r c with
   | none => rw [hc] at h; cases h
   | some a =>
     rw [hc] at h
     cases hr : decAll (decBl r) css with
     | none => rw [hr] at h; cases h
     | some t =>
       rw [hr] at h; cases h
       obtain ⟨h1, h2⟩ := ih hr
       refine ⟨by simp [h1], fun j cs b hj hb => ?_⟩
       cases j with
       | zero => simp at hj hb; subst hj; subst hb; exact hc
       | succ j => exact h2 j cs b (by simpa using hj) (by simpa using hb)
theorem ins_row {hi : Nat} {st : St} {g : Ghost} {w : World} (hI : Inv0 pg hi st g w) {vi vi' : Value} {cx : List (List Value)} {ins : List In} (h : rows (rdOf st) 7 vi = some cx) (hd : decAll decIn cx = some ins) (hv : Rel g vi vi') : Row w w.heap.size 7 vi' (ins.map In.cs) := by
 have e := decAll_in hd
 subst e
 rcases rows_rel hI h hv with ⟨h0, a, c, rfl⟩ | ⟨k, o, c, h1, rfl, h3⟩
 ·exact .inl ⟨h0, a, c, rfl⟩
 ·refine .inr ⟨k, o, c, h1, rfl, fun j cs hj i x hx => ?_⟩
  obtain ⟨x', hx', hr⟩ := h3 j cs hj i x hx
  rw [List.getElem?_map] at hj
  cases hq : ins[j]? with
  | none => rw [hq] at hj; cases hj
  | some y =>
    rw [hq] at hj; cases hj
    have hint : ∃ kk n, x = .int kk n := by
     have := List.mem_of_getElem? hx
     simp only [In.cs, List.mem_cons, List.not_mem_nil, or_false] at this
     rcases this with rfl | rfl | rfl | rfl | rfl | rfl | rfl <;> exact ⟨_, _, rfl⟩
    obtain ⟨kk, n, rfl⟩ := hint
    rw [hr.int] at hx'
    exact hx'
theorem prog_rd {hi : Nat} {st : St} {g : Ghost} {w : World} (hI : Inv0 pg hi st g w) {v v' : Value} {bs : List Bl} (h : decP (rdOf st) v = some bs) (hv : Rel g v v') : RdP w w.heap.size v' bs := by
 unfold decP at h
 cases hr : rows (rdOf st) 7 v with
 | none => rw [hr] at h; cases h
 | some css =>
   rw [hr] at h
   simp only [Option.bind_some] at h
   obtain ⟨hlen, hat⟩ := decAll_at h
   rcases rows_rel hI hr hv with ⟨h0, a, c, rfl⟩ | ⟨k, o, c, h1, rfl, h3⟩
   ·subst h0
    exact ⟨[], .inl ⟨rfl, a, c, rfl⟩, hlen, fun j cs b hj => by simp at hj⟩
   ·refine ⟨css.mapIdx fun j cs => cs.mapIdx fun i _ => (w.cell? ⟨k, o + j * 7 + i, none⟩).getD default, .inr ⟨k, o, c, h1, by rw [List.length_mapIdx], fun j cs hj i x hx => ?_⟩, by rw [List.length_mapIdx]; exact hlen, fun j cs b hj hb => ?_⟩
    ·rw [List.getElem?_mapIdx] at hj
     cases hq : css[j]? with
     | none => rw [hq] at hj; cases hj
     | some c0 =>
       rw [hq] at hj; cases hj
       rw [List.getElem?_mapIdx] at hx
       cases hy : c0[i]? with
       | none => rw [hy] at hx; cases hx
       | some y =>
         rw [hy] at hx; cases hx
         obtain ⟨x', hx', _⟩ := h3 j c0 hq i y hy
         rw [hx']; rfl
    ·rw [List.getElem?_mapIdx] at hj
     cases hq : css[j]? with
     | none => rw [hq] at hj; cases hj
     | some c0 =>
       rw [hq] at hj; cases hj
       have hd := hat j c0 b hq hb
       unfold decBl at hd
       split at hd
       ·rename_i l p q vi kk a y n
        cases hx : rows (rdOf st) 7 vi with
        | none => rw [hx] at hd; cases hd
        | some cx =>
          rw [hx] at hd
          simp only [Option.bind_some] at hd
          cases hi2 : decAll decIn cx with
          | none => rw [hi2] at hd; cases hd
          | some ins =>
            rw [hi2] at hd; cases hd
            have hc := h3 j _ hq
            obtain ⟨x0, y0, r0⟩ := hc 0 _ rfl
            obtain ⟨x1, y1, r1⟩ := hc 1 _ rfl
            obtain ⟨x2, y2, r2⟩ := hc 2 _ rfl
            obtain ⟨x3, y3, r3⟩ := hc 3 _ rfl
            obtain ⟨x4, y4, r4⟩ := hc 4 _ rfl
            obtain ⟨x5, y5, r5⟩ := hc 5 _ rfl
            obtain ⟨x6, y6, r6⟩ := hc 6 _ rfl
            rw [r0.int, Nat.add_zero] at y0
            rw [r3.int] at y3
            rw [r4.int] at y4
            rw [r5.int] at y5
            rw [r6.int] at y6
            obtain ⟨pa, pc, rfl⟩ := slice0_rel r1
            refine ⟨pa, pc, x2, ?_, ins_row hI hx hi2 r2⟩
            simp only [List.mapIdx_cons, List.mapIdx_nil, y0, y1, y2, y3, y4, y5, y6, Nat.add_zero, Nat.zero_add, Option.getD_some]
       ·cases hd
theorem pow_at {hi : Nat} {st : St} {g : Ghost} {w : World} (hI : Inv0 pg hi st g w) (h : ([(1, some Lib.pow10Tab)].all fun p => hasVar (st.get p.1) p.2) = true) : Pow w := by
 simp only [List.all_cons, List.all_nil, Bool.and_true] at h
 obtain ⟨T, fz, hq⟩ := var_at hI (i := 1) (by decide +kernel) (by decide) h
 exact ⟨T, fz, hq⟩
theorem pow_size {w : World} (h : Pow w) : 1 < w.heap.size := by
 obtain ⟨T, fz, hq⟩ := h
 exact (Array.getElem?_eq_some_iff.1 hq).1
theorem nam_at {hi : Nat} {st : St} {g : Ghost} {w : World} (hI : Inv0 pg hi st g w) (h : namesIn 0 (rdOf st) = true) : Nam w := by
 unfold namesIn at h
 cases hr : rdOf st 0 with
 | none => rw [hr] at h; cases h
 | some xs =>
   rw [hr] at h
   have e := txtsEq_eq h
   obtain ⟨G, hG, _, _, hcell⟩ := cell_rel hI hr
   obtain ⟨G0, k1, k2, k3⟩ := hI.rl.glob 0 (by decide +kernel)
   rw [k1] at hG; cases hG
   intro c hc
   have hx : xs[c]? = some (.string ⟨(namesL.getD c []).toArray⟩) := by
    rw [e, List.getElem?_map]
    have hl : c < namesL.length := hc
    unfold List.getD
    rw [List.getElem?_eq_getElem hl]
    rfl
   obtain ⟨x', hx', hr'⟩ := hcell c _ hx
   rw [hr'.string, k2, k3, Nat.zero_add] at hx'
   exact hx'
theorem known_SI : Known pg n_show_Instr := ⟨_, Tryd.func9, by kernel_rfl, by decide +kernel⟩
theorem known_SL : Known pg n_show_Last := ⟨_, Tryd.func10, by kernel_rfl, by decide +kernel⟩
theorem known_SP : Known pg n_show_Program := ⟨_, Tryd.func13, by kernel_rfl, by decide +kernel⟩
theorem ints_eq {g : Ghost} : ∀ {l l' : List Value}, RelL g l l' → (∀ x ∈ l, ∃ k n, x = Value.int k n) → l' = l := by
 intro l
 induction l with
 | nil => intro l' h _; exact RelL.nil_of h
 | cons x l ih =>
   intro l' h hi
   obtain ⟨v', r, rfl, h1, h2⟩ := RelL.cons_of h
   obtain ⟨k, n, rfl⟩ := hi x (List.mem_cons_self ..)
   rw [h1.int, ih h2 fun y hy => hi y (List.mem_cons_of_mem _ hy)]
theorem si_ok : XOk pg n_show_Instr (gSI 0) [(1, some Lib.pow10Tab)] := by
 refine ⟨known_SI, fun {args args' st hi g w v} hI hnd hx hargs => ?_⟩
 have hp := pow_at hI hnd
 simp only [gSI, named, Look.of] at hx
 split at hx
 ·rename_i hn
  have hN := nam_at hI hn
  unfold gSIf at hx
  split at hx
  ·rename_i cs
   cases hd : decIn cs.toList with
   | none => rw [hd] at hx; cases hx
   | some x =>
     rw [hd] at hx
     simp only [Option.bind_some] at hx
     split at hx
     ·rename_i hok
      cases hx
      obtain ⟨v1, r1, rfl, k1, hargs⟩ := RelL.cons_of hargs
      cases RelL.nil_of hargs
      obtain ⟨c', rfl, hr⟩ := k1.toAgg
      have e1 := decIn_cs hd
      rw [e1] at hr
      have e2 := ints_eq hr fun y hy => by
       simp only [In.cs, List.mem_cons, List.not_mem_nil, or_false] at hy
       rcases hy with rfl | rfl | rfl | rfl | rfl | rfl | rfl <;> exact ⟨_, _, rfl⟩
      obtain ⟨cl⟩ := c'
      simp only at e2
      subst e2
      exact (instr_any x hok w hp hN (pow_size hp)).mono fun e w' ⟨he, hb⟩ => ⟨_, he, .flat rfl, hb⟩
     ·cases hx
  ·cases hx
 ·cases hx
theorem sl_ok : XOk pg n_show_Last gSL [(1, some Lib.pow10Tab)] := by
 refine ⟨known_SL, fun {args args' st hi g w v} hI hnd hx hargs => ?_⟩
 have hp := pow_at hI hnd
 simp only [gSL, Look.of] at hx
 unfold gSLf at hx
 split at hx
 ·rename_i cs
  cases hd : decLa cs.toList with
  | none => rw [hd] at hx; cases hx
  | some x =>
    rw [hd] at hx
    simp only [Option.bind_some] at hx
    split at hx
    ·rename_i hok
     cases hx
     obtain ⟨v1, r1, rfl, k1, hargs⟩ := RelL.cons_of hargs
     cases RelL.nil_of hargs
     obtain ⟨c', rfl, hr⟩ := k1.toAgg
     have e1 := decLa_cs hd
     rw [e1] at hr
     have e2 := ints_eq hr fun y hy => by
      simp only [List.mem_cons, List.not_mem_nil, or_false] at hy
      rcases hy with rfl | rfl | rfl | rfl <;> exact ⟨_, _, rfl⟩
     obtain ⟨cl⟩ := c'
     simp only at e2
     subst e2
     exact (last_any x.k x.a x.y x.n hok.k hok.a hok.y hok.n w hp (pow_size hp)).mono fun e w' ⟨he, hb⟩ => ⟨_, he, .flat rfl, hb⟩
    ·cases hx
 ·cases hx
theorem sp_ok : XOk pg n_show_Program (gSP 0) [(1, some Lib.pow10Tab)] := by
 refine ⟨known_SP, fun {args args' st hi g w v} hI hnd hx hargs => ?_⟩
 have hp := pow_at hI hnd
 simp only [gSP, named, gSP0] at hx
 split at hx
 ·rename_i hn
  have hN := nam_at hI hn
  unfold gSPf at hx
  split at hx
  ·rename_i cs
   split at hx
   ·rename_i x hcs
    cases hd : decP (rdOf st) x with
    | none => rw [hd] at hx; cases hx
    | some bs =>
      rw [hd] at hx
      simp only [Option.bind_some] at hx
      split at hx
      ·rename_i hok
       cases hx
       obtain ⟨v1, r1, rfl, k1, hargs⟩ := RelL.cons_of hargs
       cases RelL.nil_of hargs
       obtain ⟨c', rfl, hr⟩ := k1.toAgg
       rw [hcs] at hr
       obtain ⟨x', r2, e2, k2, hr⟩ := RelL.cons_of hr
       cases RelL.nil_of hr
       obtain ⟨cl⟩ := c'
       simp only at e2
       subst e2
       obtain ⟨o1, o2, o3, o4⟩ := hok
       exact (program_any bs x' w (prog_rd hI hd k2) o1 o2 (fun b hb => ⟨(o3 b hb).label, (o3 b hb).ins, (o3 b hb).last.k, (o3 b hb).last.a, (o3 b hb).last.y, (o3 b hb).last.n, (o3 b hb).len⟩) o4 hp hN (pow_size hp)).mono fun e w' ⟨he, hb⟩ => ⟨_, he, .flat rfl, hb⟩
      ·cases hx
   ·cases hx
  ·cases hx
 ·cases hx
theorem told : Go.AM.Told pg pgX := fun f a h => by
 unfold pgX at h
 cases h1 : Nat.beq f n_strconv_FormatInt with
 | true =>
   rw [h1] at h
   cases h
   have := Nat.eq_of_beq_eq_true h1
   subst this
   exact .inr ⟨_, _, _, rfl, fi_ok⟩
 | false =>
 rw [h1, cond_false] at h
 cases h2 : Nat.beq f n_strconv_ParseInt with
 | true =>
   rw [h2] at h
   cases h
   have := Nat.eq_of_beq_eq_true h2
   subst this
   exact .inr ⟨_, _, _, rfl, pi_ok⟩
 | false =>
 rw [h2, cond_false] at h
 cases h3 : Nat.beq f n_show_Instr with
 | true =>
   rw [h3] at h
   cases h
   have := Nat.eq_of_beq_eq_true h3
   subst this
   exact .inr ⟨_, _, _, rfl, si_ok⟩
 | false =>
 rw [h3, cond_false] at h
 cases h4 : Nat.beq f n_show_Last with
 | true =>
   rw [h4] at h
   cases h
   have := Nat.eq_of_beq_eq_true h4
   subst this
   exact .inr ⟨_, _, _, rfl, sl_ok⟩
 | false =>
 rw [h4, cond_false] at h
 cases h5 : Nat.beq f n_show_Program with
 | true =>
   rw [h5] at h
   cases h
   have := Nat.eq_of_beq_eq_true h5
   subst this
   exact .inr ⟨_, _, _, rfl, sp_ok⟩
 | false =>
   rw [h5, cond_false] at h
   exact .inl h
end Go.Proofs.YtlpdlohikfkjnaaDoor.Sh
end
section
set_option linter.unusedVariables false
set_option linter.unusedSimpArgs false
set_option linter.unusedSectionVars false
namespace Go.Proofs.YtlpdlohikfkjnaaDoor.Sh
open Go Go.AM Go.Proofs
def svars : List (Nat × AObj) := [(1, .table Lib.pow10Tab), (0, .cells (namesL.map T))]
structure VSh (st : St) : Prop where
 next : pg.globals.size ≤ st.next
 ro : st.ro ≤ st.next
 vars : ∀ p ∈ svars, st.get p.1 = some p.2
theorem svars_lt : ∀ p ∈ svars, p.1 < pg.globals.size := by
 have : pg.globals.size = 6 := by decide +kernel
 rw [this]
 intro p hp
 simp only [svars, List.mem_cons, List.not_mem_nil, or_false] at hp
 rcases hp with rfl | rfl <;> decide
theorem VSh.mono {st st' : St} (h : VSh st) (hE : Ext st st') : VSh st' where
 next := Nat.le_trans h.next hE.next
 ro := hE.roOk h.ro
 vars := fun p hp => by rw [hE.get _ (Nat.lt_of_lt_of_le (svars_lt p hp) h.next)]; exact h.vars p hp
theorem VSh.names {st : St} (h : VSh st) : namesIn 0 (rdOf st) = true := by
 have := h.vars (0, .cells (namesL.map T)) (by simp [svars])
 have e : rdOf st 0 = some (namesL.map T) := by
  unfold rdOf
  simp only at this
  rw [this]
 unfold namesIn
 rw [e]
 decide +kernel
theorem VSh.pow {st : St} (h : VSh st) : ([((1 : Nat), some Lib.pow10Tab)].all fun p => hasVar (st.get p.1) p.2) = true := by
 have := h.vars (1, .table Lib.pow10Tab) (by simp [svars])
 simp only [List.all_cons, List.all_nil, Bool.and_true, this]
 exact decide_eq_true (rfl : Lib.pow10Tab = Lib.pow10Tab)
theorem VOk.sh {st : St} (h : VOk st) : VSh st where
 next := h.next
 ro := h.ro
 vars := fun p hp => by
  simp only [svars, List.mem_cons, List.not_mem_nil, or_false] at hp
  rcases hp with rfl | rfl
  ·exact h.vars _ (by simp [pvars])
  ·have := h.vars (0, .cells (Lx.opNames.map T)) (by simp [pvars])
   exact this
variable {K : Ctx} (hF : Fix pgF K)
include hF
theorem SI_call {st : St} (hv : VSh st) {x : In} (hx : x.Ok) : K.go (.call n_show_Instr [.agg #[.int .u8 x.k, .int .u8 x.c, .int .i64 x.d, .int .i64 x.a, .int .i64 x.b, .int .i64 x.n, .int .i64 x.s]]) st = .ok (T x.txt, st) := by
 refine ext_call hF (n := 1) (x := gSI 0) (nd := [(1, some Lib.pow10Tab)]) (by kernel_rfl) rfl rfl hv.pow ?_
 show (if namesIn 0 (rdOf st) = true then _ else none) = _
 rw [if_pos hv.names]
 show (if x.Ok then some (Value.string ⟨x.txt.toArray⟩) else none) = _
 rw [if_pos hx]
 rfl
theorem SL_call {st : St} (hv : VSh st) {x : La} (hx : x.Ok) : K.go (.call n_show_Last [.agg #[.int .u8 x.k, .int .i64 x.a, .int .i64 x.y, .int .i64 x.n]]) st = .ok (T x.txt, st) := by
 refine ext_call hF (n := 1) (x := gSL) (nd := [(1, some Lib.pow10Tab)]) (by kernel_rfl) rfl rfl hv.pow ?_
 show (if x.Ok then some (Value.string ⟨x.txt.toArray⟩) else none) = _
 rw [if_pos hx]
 rfl
theorem SP_call {st : St} (hv : VSh st) {v : Value} {bs : List Bl} (hd : decP (rdOf st) v = some bs) (hx : ProgOk bs) : K.go (.call n_show_Program [.agg #[v]]) st = .ok (T (progT bs), st) := by
 refine ext_call hF (n := 1) (x := gSP 0) (nd := [(1, some Lib.pow10Tab)]) (by kernel_rfl) rfl rfl hv.pow ?_
 show (if namesIn 0 (rdOf st) = true then _ else none) = _
 rw [if_pos hv.names]
 show (decP (rdOf st) v).bind _ = _
 rw [hd, Option.bind_some, if_pos hx]
 rfl
end Go.Proofs.YtlpdlohikfkjnaaDoor.Sh
end
