/-
  THE ABSTRACT MACHINE, 42: a run elsewhere: code, runs.
-/
import Derived.Test.YtenfblnmmmppbaaMoveB
set_option linter.unusedVariables false
set_option linter.unusedSectionVars false
set_option linter.unusedSimpArgs false
namespace Go.AM

def Mvr (d : Nat) (ρ ρ' : Operand → Value) : Prop := ∀ x, noG x = true → ρ' x = mv d (ρ x)
section
variable {d : Nat} {ρ ρ' : Operand → Value}
theorem Mvr.list (h : Mvr d ρ ρ') : ∀ {l : List Operand}, noGs l = true → l.map ρ' = (l.map ρ).map (mv d) := by
  intro l
  induction l with
  | nil => intro _; rfl
  | cons x l ih =>
    intro hl
    simp only [noGs, List.all_cons, Bool.and_eq_true] at hl
    rw [List.map_cons, List.map_cons, List.map_cons, h x hl.1, ih hl.2]
theorem Mvr.opt (h : Mvr d ρ ρ') {x : Option Operand} (hx : noGo x = true) : x.map ρ' = (x.map ρ).map (mv d) := by
  cases x with
  | none => rfl
  | some x => simp only [Option.map_some, h x hx]
theorem Mvr.parts (h : Mvr d ρ ρ') : ∀ {ps : List (Nat × Nat × Operand)}, noGp ps = true → (ps.map fun (o, n, x) => (o, n, ρ' x)) = (ps.map fun (o, n, x) => (o, n, ρ x)).map fun p => (p.1, p.2.1, mv d p.2.2) := by
  intro ps
  induction ps with
  | nil => intro _; rfl
  | cons p ps ih =>
    intro hp
    obtain ⟨o, n, x⟩ := p
    simp only [noGp, List.all_cons, Bool.and_eq_true] at hp
    have := ih hp.2
    simp only [List.map_cons, h x hp.1] at this ⊢
    rw [this]
end

section
variable {b s s' : St} (h : Sv b s s') (hb : b.ro ≤ b.next)
include h

theorem fill_sv {ρ ρ' : Operand → Value} (hρ : Mvr b.next ρ ρ') {z : List Value} {ps : List (Nat × Nat × Operand)} (hz : z.all cellConst = true) (hp : noGp ps = true) :
    RR (List.map (mv b.next)) (fillL z (ps.map fun (o, n, x) => (o, n, ρ x))) (fillL z (ps.map fun (o, n, x) => (o, n, ρ' x))) := .of_eq <| by
  have := fillL_mv (d := b.next) (ps.map fun (o, n, x) => (o, n, ρ x)) z
  rw [mv_cells hz, ← hρ.parts hp] at this
  exact this

include hb
theorem aop_sim {ρ ρ' : Operand → Value} (hρ : Mvr b.next ρ ρ') (o : AOp) (ho : okOp o = true) : SvR b (mv b.next) (o.run s ρ) (o.run s' ρ') := by
  have hpv : ∀ {x y : Res Value}, RR (mv b.next) x y → SvR b (mv b.next) (x >>= fun v => pure (v, s)) (y >>= fun v => pure (v, s')) := fun e => .val e fun v _ => .ok rfl h
  cases o with
  | mv x => exact .ok (hρ x ho) h
  | pick c a q =>
    simp only [okOp, Bool.and_eq_true] at ho
    simp only [AOp.run]
    rw [hρ c ho.1.1, hρ a ho.1.2, hρ q ho.2]
    generalize ρ c = v
    cases v with
    | bool t => exact .ok (by cases t <;> rfl) h
    | _ => exact .err
  | new z =>
    simp only [AOp.run]
    refine .ok (by rw [mv_ptr, h.next]) ?_
    have := h.alloc (.cells z) (okO_cells h z)
    rwa [mvO, mv_cells ho] at this
  | box x =>
    simp only [AOp.run]
    rw [hρ x ho]
    refine .need (by simp) (.ok (by rw [mv_ptr, h.next]) ?_)
    have := h.alloc (.cells (ρ x).cells.toList) (okO_cells h _)
    rwa [mvO, ← cellsL_mv] at this
  | build z ps =>
    simp only [okOp, Bool.and_eq_true] at ho
    simp only [AOp.run]
    exact .val (fill_sv h hρ ho.1 ho.2) fun cs _ => .ok (by simp) h
  | lit k n z ps =>
    simp only [okOp, Bool.and_eq_true] at ho
    simp only [AOp.run]
    refine .val (fill_sv h hρ ho.1 ho.2) fun cs _ => .ok (by rw [mv_slice, h.next]) ?_
    exact h.alloc (.cells cs) (okO_cells h cs)
  | load n a =>
    simp only [AOp.run]
    rw [hρ a ho]
    refine .val (.of_eq (asPtr_mv _)) fun p _ => ?_
    obtain ⟨q, o⟩ := p
    cases n with
    | none => exact .val (load1_sv h q o) fun v _ => .ok rfl h
    | some n => exact .val (loadN_sv h q o n) fun l _ => .ok (by simp) h
  | store n a x =>
    simp only [okOp, Bool.and_eq_true] at ho
    simp only [AOp.run]
    rw [hρ a ho.1, hρ x ho.2]
    refine .val (.of_eq (asPtr_mv _)) fun p _ => ?_
    obtain ⟨q, o⟩ := p
    refine .need (by simp) (.need (fun e => by rw [cellsN_mv]; exact e) ?_)
    intro v t e
    obtain ⟨t1, e2, e⟩ := Res.bind_eq_ok.1 e
    obtain ⟨t', e3, h2⟩ := storeN_sv h hb _ _ _ e2
    cases e
    refine ⟨t', ?_, h2⟩
    rw [← cellsL_mv] at e3
    show ((s'.storeN (q + b.next) o (mv b.next (ρ x)).cells.toList) >>= fun st' => pure (nothing, st')) = _
    rw [e3]; rfl
  | nilc x =>
    simp only [AOp.run]
    rw [hρ x ho]
    generalize ρ x = v
    cases v with
    | pointer a =>
      rcases a with _ | ⟨q, o, w⟩
      · exact .err
      · exact .ok rfl h
    | func f p c =>
      cases f with
      | func f => exact .ok rfl h
      | _ => exact .err
    | iface t v => exact .ok rfl h
    | _ => exact .err
  | bin op x y =>
    simp only [okOp, Bool.and_eq_true] at ho
    simp only [AOp.run]
    rw [hρ x ho.1, hρ y ho.2]
    exact hpv (.of_eq (abin_mv op _ _))
  | eq neg k x y =>
    simp only [okOp, Bool.and_eq_true] at ho
    simp only [AOp.run]
    rw [hρ x ho.1, hρ y ho.2, aeq_mv]
    exact .same fun c _ => .ok rfl h
  | un op x =>
    simp only [AOp.run]
    rw [hρ x ho]
    exact hpv (.of_eq (aun_mv op _))
  | conv k x =>
    simp only [AOp.run]
    rw [hρ x ho]
    exact aconv_sim h k _
  | iface t x =>
    simp only [AOp.run]
    rw [hρ x ho]
    exact .ok rfl h
  | fn f a c =>
    simp only [okOp, Bool.and_eq_true] at ho
    simp only [AOp.run]
    rw [hρ.list ho.1, hρ.list ho.2]
    exact .ok (by simp) h
  | newMap =>
    simp only [AOp.run]
    exact .ok (by rw [mv_map, h.next]) (h.alloc (.map []) (okO_map h _))
  | mkSlice k bytes z l c =>
    simp only [okOp, Bool.and_eq_true] at ho
    simp only [AOp.run]
    rw [hρ l ho.1.2, hρ c ho.2]
    generalize ρ l = v
    generalize ρ c = w
    cases v with
    | int q n =>
      cases q with
      | i64 =>
        cases w with
        | int q m =>
          cases q with
          | i64 =>
            simp only [mv_int]
            refine .same fun _ _ => .ok (by rw [mv_slice, h.next]) ?_
            have := h.alloc (.cells (zerosL z m.toNat)) (okO_cells h _)
            rwa [mvO, zerosL_mv (mv_cells ho.1.1)] at this
          | _ => exact .err
        | _ => exact .err
      | _ => exact .err
    | _ => exact .err
  | slice k x lo hi mx =>
    simp only [okOp, Bool.and_eq_true] at ho
    simp only [AOp.run]
    rw [hρ x ho.1.1.1, hρ.opt ho.1.1.2, hρ.opt ho.1.2, hρ.opt ho.2]
    exact hpv (aslice_sv h k _ _ _ _)
  | off n x =>
    simp only [AOp.run]
    rw [hρ x ho]
    refine .val (.of_eq (asPtr_mv _)) fun p _ => ?_
    obtain ⟨q, o⟩ := p
    exact .ok rfl h
  | field n o x =>
    simp only [AOp.run]
    rw [hρ x ho]
    generalize ρ x = v
    cases v with
    | agg cs =>
      simp only [mv_agg, mvA_list]
      exact hpv (.of_eq (part_mv n _ o))
    | _ => exact .err
  | ixA k ln x i =>
    simp only [okOp, Bool.and_eq_true] at ho
    simp only [AOp.run]
    rw [hρ x ho.1, hρ i ho.2]
    generalize ρ x = v
    cases ln with
    | none =>
      cases v with
      | slice a n c =>
        rcases a with _ | ⟨q, o, w⟩
        · exact .err
        · cases w with
          | some w => exact .err
          | none =>
            simp only [mv_slice, index_mv]
            exact .same fun _ _ => .same fun i _ => .ok rfl h
      | _ => exact .err
    | some n =>
      cases v with
      | pointer a =>
        rcases a with _ | ⟨q, o, w⟩
        · exact .err
        · cases w with
          | some w => exact .err
          | none =>
            simp only [mv_ptr, index_mv]
            exact .same fun i _ => .ok rfl h
      | _ => exact .err
  | ixS x i =>
    simp only [okOp, Bool.and_eq_true] at ho
    simp only [AOp.run]
    rw [hρ x ho.1, hρ i ho.2]
    generalize ρ x = v
    cases v with
    | string t =>
      simp only [mv_string, index_mv]
      exact .same fun i _ => .same fun c _ => .ok rfl h
    | _ => exact .err
  | ixV n k ln x i =>
    simp only [okOp, Bool.and_eq_true] at ho
    simp only [AOp.run]
    rw [hρ x ho.1, hρ i ho.2]
    generalize ρ x = v
    cases v with
    | agg cs =>
      simp only [mv_agg, mvA_list, index_mv]
      exact .same fun i _ => hpv (.of_eq (part_mv n _ _))
    | _ => exact .err
  | look q z ok x k =>
    simp only [okOp, Bool.and_eq_true] at ho
    simp only [AOp.run]
    rw [hρ x ho.1.2, hρ k ho.2]
    exact hpv (alook_sv h q (mv_const ho.1.1) ok _ _)
  | mapSet q m k v =>
    simp only [okOp, Bool.and_eq_true] at ho
    simp only [AOp.run]
    rw [hρ m ho.1.1, hρ k ho.1.2, hρ v ho.2]
    intro w t e
    obtain ⟨t1, e2, e⟩ := Res.bind_eq_ok.1 e
    obtain ⟨t', e3, h2⟩ := amapSet_sim h hb _ _ _ _ e2
    cases e
    exact ⟨t', by rw [e3]; rfl, h2⟩
  | rangeStr x =>
    simp only [AOp.run]
    rw [hρ x ho]
    generalize ρ x = v
    cases v with
    | string t => exact .ok (by rw [mv_ptr, h.next]) (h.alloc (.strIter t 0) (okO_iter h t 0))
    | _ => exact .err
  | nextStr x =>
    simp only [AOp.run]
    rw [hρ x ho]
    refine .val (.of_eq (asPtr_mv _)) fun p _ => ?_
    obtain ⟨q, o⟩ := p
    refine .need (by simp) ?_
    show SvR b _ (match s.get q with | some (.strIter t pos) => _ | _ => _) _
    cases hq : s.get q with
    | none => exact .err
    | some ob =>
      have hg := h.get q ob hq
      cases ob with
      | strIter t pos =>
        simp only [hg, mvO]
        split
        · refine .need (fun _ => by rw [h.ro']; simp; omega) ?_
          exact .ok rfl (h.put q (.strIter t (pos + (Utf8.decode t pos).2)) (okO_iter h _ _))
        · exact .ok rfl h
      | _ => exact .err
  | assert t z ok x =>
    simp only [okOp, Bool.and_eq_true] at ho
    simp only [AOp.run]
    rw [hρ x ho.2]
    generalize ρ x = v
    have hz := mv_const (d := b.next) ho.1
    cases v with
    | iface u v =>
      simp only [mv_iface]
      split
      · cases ok <;> exact .ok rfl h
      · cases ok
        · exact .err
        · exact .ok (by simp [hz]) h
    | nilIface =>
      cases ok
      · exact .err
      · exact .ok (by simp [hz]) h
    | _ => exact .err
  | extract x i =>
    simp only [AOp.run]
    rw [hρ x ho]
    generalize ρ x = v
    cases v with
    | tuple vs =>
      simp only [mv_tuple, mvA_get]
      exact hpv (.of_eq (mapR_of _ _ _).symm)
    | _ => exact .err
  | len k x =>
    simp only [AOp.run]
    rw [hρ x ho]
    generalize ρ x = v
    cases k with
    | str => cases v with
      | string t => exact .ok rfl h
      | _ => exact .err
    | slice => cases v with
      | slice a n c => rcases a with _ | ⟨q, o, w⟩ <;> exact .ok rfl h
      | _ => exact .err
    | const n => exact .ok rfl h
    | map => cases v with
      | map a =>
        cases a with
        | none => exact .ok rfl h
        | some r =>
          simp only [mv_map]
          exact .val (map_sv h r) fun es _ => .ok (by simp [goInt]) h
      | _ => exact .err
  | append k bytes x y =>
    simp only [okOp, Bool.and_eq_true] at ho
    simp only [AOp.run]
    rw [hρ x ho.1, hρ y ho.2]
    exact aappend_sim h hb k bytes _ _
  | copy k x y =>
    simp only [okOp, Bool.and_eq_true] at ho
    simp only [AOp.run]
    rw [hρ x ho.1, hρ y ho.2]
    exact acopy_sim h hb k _ _
  | clear z x =>
    simp only [okOp, Bool.and_eq_true] at ho
    simp only [AOp.run]
    rw [hρ x ho.2]
    exact aclear_sim h hb (mv_cells ho.1) _
  | delete q x k =>
    simp only [okOp, Bool.and_eq_true] at ho
    simp only [AOp.run]
    rw [hρ x ho.1, hρ k ho.2]
    intro w t e
    obtain ⟨t1, e2, e⟩ := Res.bind_eq_ok.1 e
    obtain ⟨t', e3, h2⟩ := adelete_sim h hb _ _ _ e2
    cases e
    exact ⟨t', by rw [e3]; rfl, h2⟩
  | minmax m x ys =>
    simp only [okOp, Bool.and_eq_true] at ho
    simp only [AOp.run]
    rw [hρ x ho.1, hρ.list ho.2]
    exact hpv (.of_eq (minmaxL_mv m _ _))
  | call f args => exact .err
  | lbox x =>
    simp only [AOp.run]
    rw [hρ x ho]
    refine .need (by simp) (.ok (by rw [mv_agg, cells_mv]) (h.alloc .dead (okO_dead h)))
  | lnew z =>
    simp only [AOp.run]
    exact .ok (by rw [mv_agg, mvA_mk, mv_cells ho]) (h.alloc .dead (okO_dead h))
  | lref x =>
    simp only [AOp.run]
    rw [hρ x ho]
    generalize ρ x = v
    cases v with
    | agg cs => exact .ok rfl h
    | _ => exact .err
  | upd n k d x =>
    simp only [okOp, Bool.and_eq_true] at ho
    simp only [AOp.run]
    rw [hρ d ho.1, hρ x ho.2]
    generalize ρ d = v
    cases v with
    | agg cs =>
      simp only [mv_agg, isTuple_mv, cellsN_mv, mvA_size, cellsL_mv, all_cellOk_mv, mvA_list, splice_mv]
      exact .same fun _ _ => .same fun _ _ => .same fun _ _ => .same fun _ _ => .ok (by rw [mv_agg, mvA_mk]) h
    | _ => exact .err
end

/-! ### code -/
section
variable {d : Nat}
theorem at_mv : ∀ (e : Env) (t : Tmp), (mvE d e).at t = mv d (e.at t) := by
  intro e
  induction e with
  | nil => intro t; rfl
  | cons p e ih =>
    intro t
    obtain ⟨u, v⟩ := p
    show (bif Nat.beq u t then mv d v else Env.at (mvE d e) t) = mv d (bif Nat.beq u t then v else Env.at e t)
    rw [ih]
    cases Nat.beq u t <;> rfl
theorem ev_mv (e : Env) : Mvr d e.ev (mvE d e).ev := fun x hx => by
  cases x with
  | tmp t => exact at_mv e t
  | const v =>
    show (if constOk v then v else nothing) = mv d (if constOk v then v else nothing)
    split
    · rename_i hc; rw [mv_const hc]
    · rfl
  | global g => cases hx
  | func f => rfl
theorem set_mv (e : Env) (t : Tmp) (v : Value) : Env.set (mvE d e) t (mv d v) = mvE d (Env.set e t v) := rfl
theorem put_mv (e : Env) (t : Option Tmp) (v : Value) : (mvE d e).put t (mv d v) = mvE d (e.put t v) := by cases t <;> rfl
theorem skip_mv : mv d skipped = skipped := rfl
theorem wants_mv (e : Env) (g : Option (Tmp × Bool)) : wants (mvE d e) g = wants e g := by
  cases g with
  | none => rfl
  | some p =>
    obtain ⟨t, c⟩ := p
    unfold wants
    simp only [at_mv]
    generalize e.at t = v
    cases v with
    | pointer a => rcases a with _ | ⟨b, o, x⟩ <;> rfl
    | slice a n c => rcases a with _ | ⟨b, o, x⟩ <;> rfl
    | map a => cases a <;> rfl
    | chan a => cases a <;> rfl
    | _ => rfl
theorem putL_mv : ∀ (ts : List Tmp) (vs : List Value) (e : Env), putL (mvE d e) ts (vs.map (mv d)) = mvE d (putL e ts vs) := by
  intro ts
  induction ts with
  | nil => intro vs e; rfl
  | cons t ts ih =>
    intro vs e
    cases vs with
    | nil => rfl
    | cons v vs => exact ih vs (Env.set e t v)
theorem keep_mv (e : Env) : ∀ (l : List Tmp), (mvE d e).keep l = mvE d (e.keep l) := by
  intro l
  induction l with
  | nil => rfl
  | cons t l ih => simp only [Env.keep, ih, at_mv, set_mv]
theorem start_mv (args : List Value) : start (args.map (mv d)) = mvE d (start args) := by
  unfold start
  rw [List.length_map]
  exact putL_mv _ _ []
theorem oneOf_mv (vs : List Value) : oneOf (vs.map (mv d)) = mv d (oneOf vs) := by
  match vs with
  | [] => rfl
  | [v] => rfl
  | v :: w :: l => exact (congrArg Value.tuple (mvA_mk (v :: w :: l))).symm
def mvT (d : Nat) : Task → Task
  | .call f args => .call f (args.map (mv d))
  | .round l args => .round (l + d) (args.map (mv d))
theorem taskOf_mv (f : Value) (args : List Value) : taskOf (mv d f) (args.map (mv d)) = mapR (mvT d) (taskOf f args) := by
  cases f with
  | func f a c =>
    cases f with
    | func f => simp [taskOf, mvT]
    | yield l => simp [taskOf, mvT]
    | _ => rfl
  | pointer a => rcases a with _ | ⟨b, o, x⟩ <;> rfl
  | slice a n c => rcases a with _ | ⟨b, o, x⟩ <;> rfl
  | map a => cases a <;> rfl
  | chan a => cases a <;> rfl
  | _ => rfl
theorem isCall_mv (t : Task) : (mvT d t).isCall = t.isCall := by cases t <;> rfl

/-! the same is found -/
theorem sameCell_mv {x y : Value} (h : sameCell x y = true) : sameCell (mv d x) (mv d y) = true := by
  unfold sameCell at h
  split at h
  · exact h
  · exact h
  · exact h
  · have := of_decide_eq_true h
    subst this
    rename_i a
    rcases a with _ | ⟨b, o, x⟩ <;> simp [sameCell]
  · simp only [Bool.and_eq_true, decide_eq_true_eq] at h
    obtain ⟨⟨rfl, rfl⟩, rfl⟩ := h
    rename_i a n c
    rcases a with _ | ⟨b, o, x⟩ <;> simp [sameCell]
  · have := of_decide_eq_true h
    subst this
    rename_i a
    cases a <;> simp [sameCell]
  · rfl
  · rfl
  · cases h
theorem sameCells_mv : ∀ {xs ys : List Value}, sameCells xs ys = true → sameCells (xs.map (mv d)) (ys.map (mv d)) = true := by
  intro xs
  induction xs with
  | nil =>
    intro ys h
    cases ys with
    | nil => rfl
    | cons y ys => cases h
  | cons x xs ih =>
    intro ys h
    cases ys with
    | nil => cases h
    | cons y ys =>
      simp only [sameCells, Bool.and_eq_true] at h
      simp only [List.map_cons, sameCells, Bool.and_eq_true]
      exact ⟨sameCell_mv h.1, ih h.2⟩
theorem sameOne_mv {x y : Value} (h : sameOne x y = true) : sameOne (mv d x) (mv d y) = true := by
  have hc : ∀ {x y : Value}, sameCell x y = true → sameOne (mv d x) (mv d y) = true := fun {x y} h => by
    have h' := sameCell_mv (d := d) h
    unfold sameCell at h
    split at h
    · exact h'
    · exact h'
    · exact h'
    · rename_i a c
      rcases a with _ | ⟨b, o, x⟩ <;> rcases c with _ | ⟨b, o, x⟩ <;> exact h'
    · rename_i a n s c m t
      rcases a with _ | ⟨b, o, x⟩ <;> rcases c with _ | ⟨b, o, x⟩ <;> exact h'
    · rename_i a c
      cases a <;> cases c <;> exact h'
    · exact h'
    · exact h'
    · cases h
  unfold sameOne at h
  split at h
  · simp only [mv_agg, sameOne, mvA_list]
    exact sameCells_mv h
  · simp only [Bool.and_eq_true, decide_eq_true_eq] at h
    obtain ⟨⟨h1, h2⟩, h3⟩ := h
    simp only [mv_func, mvF_func, sameOne, mvA_list, Bool.and_eq_true, decide_eq_true_eq]
    exact ⟨⟨h1, sameCells_mv h2⟩, sameCells_mv h3⟩
  · rename_i t x u y
    simp only [Bool.and_eq_true, decide_eq_true_eq] at h
    obtain ⟨⟨h1, h2⟩, h3⟩ := h
    simp only [mv_iface, sameOne, cellsL_mv, Bool.and_eq_true, decide_eq_true_eq]
    refine ⟨⟨h1, sameCells_mv h2⟩, ?_⟩
    have hag : ∀ v : Value, (∃ cs, v = .agg cs ∧ ∃ cs', mv d v = .agg cs') ∨ ((∀ cs, v ≠ .agg cs) ∧ ∀ cs, mv d v ≠ .agg cs) := fun v => by
      cases v with
      | agg cs => exact .inl ⟨_, rfl, _, rfl⟩
      | pointer a => rcases a with _ | ⟨b, o, x⟩ <;> exact .inr ⟨fun _ e => (by cases e), fun _ e => (by cases e)⟩
      | slice a n c => rcases a with _ | ⟨b, o, x⟩ <;> exact .inr ⟨fun _ e => (by cases e), fun _ e => (by cases e)⟩
      | map a => cases a <;> exact .inr ⟨fun _ e => (by cases e), fun _ e => (by cases e)⟩
      | chan a => cases a <;> exact .inr ⟨fun _ e => (by cases e), fun _ e => (by cases e)⟩
      | _ => exact .inr ⟨fun _ e => (by cases e), fun _ e => (by cases e)⟩
    rcases hag x with ⟨cs, rfl, cs', e⟩ | ⟨a1, a2⟩
    · rcases hag y with ⟨ds, rfl, ds', e2⟩ | ⟨b1, b2⟩
      · rfl
      · exfalso
        cases y <;> first | (simp at h3; done) | exact absurd rfl (b1 _)
    · rcases hag y with ⟨ds, rfl, ds', e2⟩ | ⟨b1, b2⟩
      · exfalso
        cases x <;> first | (simp at h3; done) | exact absurd rfl (a1 _)
      · revert a2 b2
        generalize mv d x = x'
        generalize mv d y = y'
        intro a2 b2
        split
        · exact absurd rfl (a2 _)
        · exact absurd rfl (a2 _)
        · exact absurd rfl (b2 _)
        · rfl
  · exact hc h
theorem sameVal_mv {x y : Value} (h : sameVal x y = true) : sameVal (mv d x) (mv d y) = true := by
  unfold sameVal at h
  split at h
  · rename_i xs ys
    split at h
    · rename_i x a y c e1 e2
      simp only [Bool.and_eq_true] at h
      simp only [mv_tuple, sameVal, mvA_list, e1, e2, List.map_cons, List.map_nil, mv_bool, Bool.and_eq_true]
      exact ⟨sameOne_mv h.1, h.2⟩
    · cases h
  · rename_i hn
    have h' := sameOne_mv (d := d) h
    have ht : ∀ v : Value, (∃ cs, v = .tuple cs) ∨ ∀ cs, mv d v ≠ .tuple cs := fun v => by
      cases v with
      | tuple cs => exact .inl ⟨_, rfl⟩
      | pointer a => rcases a with _ | ⟨b, o, x⟩ <;> exact .inr fun _ e => (by cases e)
      | slice a n c => rcases a with _ | ⟨b, o, x⟩ <;> exact .inr fun _ e => (by cases e)
      | map a => cases a <;> exact .inr fun _ e => (by cases e)
      | chan a => cases a <;> exact .inr fun _ e => (by cases e)
      | _ => exact .inr fun _ e => (by cases e)
    unfold sameVal
    split
    · rename_i xs ys e1 e2
      exfalso
      rcases ht x with ⟨cs, rfl⟩ | hx
      · rcases ht y with ⟨ds, rfl⟩ | hy
        · exact hn _ _ rfl rfl
        · exact hy _ e2
      · exact hx _ e1
    · exact h'
theorem idOf_mv (v : Value) : idOf (mv d v) = (idOf v).map (· + d) := by
  cases v with
  | pointer a => rcases a with _ | ⟨b, o, x⟩ <;> rfl
  | slice a n c => rcases a with _ | ⟨b, o, x⟩ <;> rfl
  | map a => cases a <;> rfl
  | chan a => cases a <;> rfl
  | _ => rfl
theorem looks_mv {ρ ρ' : Operand → Value} (hρ : Mvr d ρ ρ') {o : AOp} (ho : okOp o = true) : o.looks ρ' = (o.looks ρ).map (· + d) := by
  have key : ∀ x, noG x = true → (some x).bind (fun x => idOf (ρ' x)) = ((some x).bind fun x => idOf (ρ x)).map (· + d) := fun x hx => by
    simp only [Option.bind_some, hρ x hx, idOf_mv]
  unfold AOp.looks
  cases o with
  | load n a => exact key a ho
  | look q z ok x k =>
    simp only [okOp, Bool.and_eq_true] at ho
    exact key x ho.1.2
  | len k x =>
    cases k with
    | map => exact key x ho
    | _ => rfl
  | slice k x lo hi mx =>
    simp only [okOp, Bool.and_eq_true] at ho
    exact key x ho.1.1.1
  | _ => rfl
end

section
variable {b : St} (hb : b.ro ≤ b.next)
include hb

/-- Snapshots, elsewhere. -/
def SvL (b : St) (l l' : List St) : Prop := l.length = l'.length ∧ ∀ (i : Nat) a a', l[i]? = some a → l'[i]? = some a' → Sv b a a'
theorem stays_mv {ρ ρ' : Operand → Value} (hρ : Mvr b.next ρ ρ') {o : AOp} (ho : okOp o = true) {sn sn' : List St} (hs : SvL b sn sn') {base : Nat} {v : Value} (h : stays sn base ρ o v = true) : stays sn' (base + b.next) ρ' o (mv b.next v) = true := by
  unfold stays at h ⊢
  rw [Bool.or_eq_true] at h ⊢
  rcases h with h | h
  · left
    rw [looks_mv hρ ho]
    cases hl : o.looks ρ with
    | none => rw [hl] at h; cases h
    | some id =>
      rw [hl] at h
      have := of_decide_eq_true h
      simpa using this
  · right
    rw [List.all_eq_true] at h ⊢
    intro a' ha'
    obtain ⟨i, hi⟩ := List.mem_iff_getElem?.1 ha'
    have hil := (List.getElem?_eq_some_iff.1 hi).1
    obtain ⟨a, hi2⟩ : ∃ a, sn[i]? = some a := ⟨_, List.getElem?_eq_getElem (by rw [hs.1]; exact hil)⟩
    have hsv := hs.2 i _ _ hi2 hi
    have h1 := h _ (List.mem_of_getElem? hi2)
    cases hr : o.run a ρ with
    | err m => rw [hr] at h1; cases h1
    | ok p =>
      obtain ⟨u, t⟩ := p
      rw [hr] at h1
      obtain ⟨t', e, _⟩ := aop_sim hsv hb hρ o ho _ _ hr
      rw [e]
      exact sameVal_mv h1
omit hb in
theorem SvL.take {l l' : List St} (h : SvL b l l') (n : Nat) : SvL b (l.take n) (l'.take n) := by
  refine ⟨by simp [h.1], fun i a a' h1 h2 => ?_⟩
  rw [List.getElem?_take] at h1 h2
  split at h1
  · rename_i hi
    rw [if_pos hi] at h2
    exact h.2 i a a' h1 h2
  · cases h1
omit hb in
theorem SvL.cons {l l' : List St} {a a' : St} (ha : Sv b a a') (h : SvL b l l') : SvL b (a :: l) (a' :: l') := by
  refine ⟨by simp [h.1], fun i x x' h1 h2 => ?_⟩
  cases i with
  | zero => cases h1; cases h2; exact ha
  | succ i => exact h.2 i x x' h1 h2

variable {go : Task → St → Res (Value × St)} {N : Nat} (hgo : ∀ t s s', Sv b s s' → SvR b (mv b.next) (go t s) (go (mvT b.next t) s'))
include hgo

theorem moper_sim {s s' : St} (h : Sv b s s') {ρ ρ' : Operand → Value} (hρ : Mvr b.next ρ ρ') (o : AOp) (ho : okOp o = true) : SvR b (mv b.next) (AOper.run (ctxOf go N) s ρ o) (AOper.run (ctxOf go N) s' ρ' o) := by
  cases o with
  | call f args =>
    simp only [okOp, Bool.and_eq_true] at ho
    simp only [AOper.run]
    rw [hρ f ho.1, hρ.list ho.2]
    exact .val (.of_eq (taskOf_mv _ _)) fun t _ => hgo t s s' h
  | _ => exact aop_sim h hb hρ _ ho

theorem mops_sim : ∀ (l : List AOper), (l.all fun o => okOp o.op) = true → ∀ {s s' : St} {e : Env}, Sv b s s' → SvR b (mvE b.next) (opsC (ctxOf go N) l e s) (opsC (ctxOf go N) l (mvE b.next e) s') := by
  intro l
  induction l with
  | nil => intro _ s s' e h; exact .ok rfl h
  | cons o l ih =>
    intro hl s s' e h
    simp only [List.all_cons, Bool.and_eq_true] at hl
    simp only [opsC, wants_mv]
    refine .same fun c _ => ?_
    cases c with
    | true =>
      simp only [if_true]
      refine .bind (moper_sim hb hgo h (ev_mv e) o.op hl.1) fun v t t' h2 => ?_
      simp only [put_mv]
      exact ih hl.2 h2
    | false =>
      simp only [Bool.false_eq_true, if_false]
      rw [← skip_mv (d := b.next), put_mv, skip_mv]
      exact ih hl.2 h

theorem mdraw_sim : ∀ (l : List DOper), (l.all fun o => okOp o.o.op) = true → ∀ {sn sn' : List St} {base : Nat} {s s' : St} {e : Env}, SvL b sn sn' → Sv b s s' → SvR b (mvE b.next) (drawC (ctxOf go N) l sn base e s) (drawC (ctxOf go N) l sn' (base + b.next) (mvE b.next e) s') := by
  intro l
  induction l with
  | nil => intro _ sn sn' base s s' e _ h; exact .ok rfl h
  | cons o l ih =>
    intro hl sn sn' base s s' e hsn h
    simp only [List.all_cons, Bool.and_eq_true] at hl
    simp only [drawC, wants_mv]
    refine .same fun c _ => ?_
    cases c with
    | true =>
      simp only [if_true]
      refine .bind (moper_sim hb hgo h (ev_mv e) o.o.op hl.1) fun v t t' h2 => ?_
      simp only [put_mv]
      cases hw : o.writes with
      | true =>
        simp only [if_true]
        rw [h2.next]
        exact ih hl.2 (hsn.cons h) h2
      | false =>
        simp only [Bool.false_eq_true, if_false]
        refine .need (fun hc => ?_) (ih hl.2 hsn h2)
        rw [Bool.or_eq_true] at hc ⊢
        exact hc.imp id fun hc => stays_mv hb (ev_mv e) hl.1 (hsn.take _) hc
    | false =>
      simp only [Bool.false_eq_true, if_false]
      rw [← skip_mv (d := b.next), put_mv, skip_mv]
      exact ih hl.2 hsn h
omit hgo

/-- Code comes to the same, elsewhere. -/
def SvC (b : St) (x y : Res (AExit × Env × St)) : Prop := ∀ k e t, x = .ok (k, e, t) → ∃ t', y = .ok (k, mvE b.next e, t') ∧ Sv b t t'
omit hb in
theorem miter_sim {f g : Env → St → Res (AExit × Env × St)} (hfg : ∀ e s s', Sv b s s' → SvC b (f e s) (g (mvE b.next e) s')) : ∀ (n : Nat) (e : Env) (s s' : St), Sv b s s' → SvC b (iterC f n e s) (iterC g n (mvE b.next e) s') := by
  intro n
  induction n with
  | zero => intro e s s' h k e1 t hr; simp [iterC] at hr
  | succ n ih =>
    intro e s s' h k e2 t2 hr
    simp only [iterC] at hr ⊢
    obtain ⟨⟨x, e1, t1⟩, h1, hr⟩ := Res.bind_eq_ok.1 hr
    obtain ⟨t1', g1, hs1⟩ := hfg e s s' h _ _ _ h1
    rw [g1]
    cases x with
    | normal => exact ih _ _ _ hs1 _ _ _ hr
    | exit id => cases hr; exact ⟨t1', rfl, hs1⟩
    | ret => cases hr; exact ⟨t1', rfl, hs1⟩
include hgo

theorem mcode_sim : ∀ (c : ACode), okC c = true → ∀ (e : Env) (s s' : St), Sv b s s' → SvC b (codeC (ctxOf go N) c e s) (codeC (ctxOf go N) c (mvE b.next e) s') := by
  intro c
  induction c with
  | skip => intro _ e s s' h k e1 t hr; cases hr; exact ⟨s', rfl, h⟩
  | ops l =>
    intro hc e s s' h k e1 t hr
    simp only [codeC] at hr ⊢
    obtain ⟨⟨e2, t2⟩, h1, hr⟩ := Res.bind_eq_ok.1 hr
    obtain ⟨t', g1, hs⟩ := mops_sim hb hgo l hc h _ _ h1
    cases hr
    exact ⟨t', by rw [g1]; rfl, hs⟩
  | draw l =>
    intro hc e s s' h k e1 t hr
    simp only [codeC] at hr ⊢
    obtain ⟨⟨e2, t2⟩, h1, hr⟩ := Res.bind_eq_ok.1 hr
    obtain ⟨t', g1, hs⟩ := mdraw_sim hb hgo l hc (sn := []) (sn' := []) (base := s.next) ⟨rfl, fun i a a' h => by simp at h⟩ h _ _ h1
    rw [← h.next] at g1
    cases hr
    exact ⟨t', by rw [g1]; rfl, hs⟩
  | seq a c iha ihc =>
    intro hc e s s' h k e1 t hr
    simp only [okC, Bool.and_eq_true] at hc
    simp only [codeC] at hr ⊢
    obtain ⟨⟨x, e2, t2⟩, h1, hr⟩ := Res.bind_eq_ok.1 hr
    obtain ⟨t', g1, hs⟩ := iha hc.1 _ _ _ h _ _ _ h1
    rw [g1]
    cases x with
    | normal => exact ihc hc.2 _ _ _ hs _ _ _ hr
    | exit id => cases hr; exact ⟨t', rfl, hs⟩
    | ret => cases hr; exact ⟨t', rfl, hs⟩
  | cond c a q iha ihq =>
    intro hc e s s' h k e1 t hr
    simp only [okC, Bool.and_eq_true] at hc
    simp only [codeC] at hr ⊢
    rw [ev_mv e c hc.1.1]
    generalize e.ev c = v at hr ⊢
    cases v with
    | bool c =>
      cases c with
      | true => exact iha hc.1.2 _ _ _ h _ _ _ hr
      | false => exact ihq hc.2 _ _ _ h _ _ _ hr
    | _ => cases hr
  | block id c ihc =>
    intro hc e s s' h k e1 t hr
    simp only [codeC] at hr ⊢
    obtain ⟨⟨x, e2, t2⟩, h1, hr⟩ := Res.bind_eq_ok.1 hr
    obtain ⟨t', g1, hs⟩ := ihc hc _ _ _ h _ _ _ h1
    rw [g1]
    cases x with
    | normal => cases hr; exact ⟨t', rfl, hs⟩
    | exit id => cases hr; exact ⟨t', rfl, hs⟩
    | ret => cases hr; exact ⟨t', rfl, hs⟩
  | loop c ihc =>
    intro hc e s s' h
    exact miter_sim (fun e s s' h => ihc hc e s s' h) N e s s' h
  | range f ps a c iha ihc =>
    intro hc e s s' h k e1 t hr
    simp only [okC, Bool.and_eq_true] at hc
    simp only [codeC] at hr ⊢
    obtain ⟨tk, h1, hr⟩ := Res.bind_eq_ok.1 hr
    obtain ⟨_, h2, hr⟩ := Res.bind_eq_ok.1 hr
    obtain ⟨⟨v, t1⟩, h3, hr⟩ := Res.bind_eq_ok.1 hr
    have hta := taskOf_mv (d := b.next) (e.ev f) [.func (.yield s.next) #[] #[]]
    have hl : [Value.func (.yield s.next) #[] #[]].map (mv b.next) = [.func (.yield s'.next) #[] #[]] := by rw [h.next]; rfl
    rw [hl, ← ev_mv e f hc.1.1, h1] at hta
    have hal := h.alloc (.loop e ps a c .ready .normal) fun _ _ _ _ _ _ e => by cases e; exact ⟨hc.1.2, hc.2⟩
    obtain ⟨t1', g3, hs⟩ := hgo tk _ _ hal _ _ h3
    have hic : Res.need (mvT b.next tk).isCall "range: no function" = .ok () := by rw [isCall_mv, Res.need_eq_ok.1 h2]; rfl
    have g3 : go (mvT b.next tk) (s'.alloc (.loop (mvE b.next e) ps a c .ready .normal)) = .ok (mv b.next v, t1') := g3
    rw [hta]
    simp only [mapR_ok, Res.bind_ok, hic]
    show ∃ t', ((go (mvT b.next tk) (s'.alloc (.loop (mvE b.next e) ps a c .ready .normal))) >>= _) = _ ∧ _
    rw [g3]
    simp only [Res.bind_ok]
    split at hr
    · rename_i e2 ps2 a2 c2 st2 pd2 hq
      have hg := hs.get s.next _ hq
      rw [← h.next] at hg
      rw [hg]
      simp only [mvO]
      obtain ⟨_, h4, hr⟩ := Res.bind_eq_ok.1 hr
      cases hr
      refine ⟨t1'.put s'.next .dead, by rw [h4]; rfl, ?_⟩
      rw [h.next]
      exact hs.put s.next .dead (okO_dead h)
    · cases hr
  | exit id => intro _ e s s' h k e1 t hr; cases hr; exact ⟨s', rfl, h⟩
  | ret => intro _ e s s' h k e1 t hr; cases hr; exact ⟨s', rfl, h⟩
  | keep l => intro _ e s s' h k e1 t hr; cases hr; exact ⟨s', by simp only [codeC, keep_mv], h⟩
omit hgo

theorem mresults_sim {s s' : St} (h : Sv b s s') (e : Env) : ∀ (l : List ARes) (vs : List Value), resultsC e s l = .ok vs → resultsC (mvE b.next e) s' l = .ok (vs.map (mv b.next)) := by
  intro l
  induction l with
  | nil => intro vs hr; cases hr; rfl
  | cons r l ih =>
    intro vs hr
    cases r with
    | tmp t =>
      simp only [resultsC] at hr ⊢
      obtain ⟨vs', h1, hr⟩ := Res.bind_eq_ok.1 hr
      cases hr
      rw [ih _ h1, at_mv]
      rfl
    | cell t n =>
      simp only [resultsC] at hr ⊢
      obtain ⟨⟨v, t1⟩, h0, hr⟩ := Res.bind_eq_ok.1 hr
      obtain ⟨vs', h1, hr⟩ := Res.bind_eq_ok.1 hr
      obtain ⟨t', g0, _⟩ := aop_sim h hb (ev_mv e) (.load n (.tmp t)) rfl _ _ h0
      cases hr
      rw [g0]
      simp only [Res.bind_ok, ih _ h1]
      rfl
    | part t n =>
      simp only [resultsC] at hr ⊢
      obtain ⟨⟨v, t1⟩, h0, hr⟩ := Res.bind_eq_ok.1 hr
      obtain ⟨vs', h1, hr⟩ := Res.bind_eq_ok.1 hr
      obtain ⟨t', g0, _⟩ := aop_sim h hb (ev_mv e) (.field n 0 (.tmp t)) rfl _ _ h0
      cases hr
      rw [g0]
      simp only [Res.bind_ok, ih _ h1]
      rfl

/-- A run, elsewhere. -/
theorem mgo_sim {tab : Funs} (hok : ∀ f a, tab f = some a → okC a.body = true) : ∀ (n : Nat) (t : Task) (s s' : St), Sv b s s' → SvR b (mv b.next) (runT tab n t s) (runT tab n (mvT b.next t) s') := by
  intro n
  induction n with
  | zero => intro t s s' h v t1 hr; simp [runT] at hr
  | succ n ih =>
    intro t s s' h v t1 hr
    cases t with
    | call f args =>
      simp only [runT, mvT] at hr ⊢
      obtain ⟨fn, h1, hr⟩ := Res.bind_eq_ok.1 hr
      obtain ⟨_, h2, hr⟩ := Res.bind_eq_ok.1 hr
      obtain ⟨⟨x, e, s1⟩, h3, hr⟩ := Res.bind_eq_ok.1 hr
      obtain ⟨s1', g3, hs⟩ := mcode_sim hb ih fn.body (hok f fn (Res.of_eq_ok.1 h1)) _ _ _ h _ _ _ h3
      rw [h1]
      simp only [Res.bind_ok, List.length_map, h2, start_mv, g3]
      have hx : ∀ id, x ≠ .exit id := fun id e => by subst e; cases hr
      have hr : (resultsC e s1 fn.results >>= fun vs => pure (oneOf vs, s1)) = .ok (v, t1) := by
        cases x with
        | exit id => exact absurd rfl (hx id)
        | normal => exact hr
        | ret => exact hr
      obtain ⟨vs, h4, hr⟩ := Res.bind_eq_ok.1 hr
      cases hr
      have g4 := mresults_sim hb hs e _ _ h4
      refine ⟨s1', ?_, hs⟩
      cases x with
      | exit id => exact absurd rfl (hx id)
      | normal => simp only [g4, Res.bind_ok, oneOf_mv, Res.pure_eq]
      | ret => simp only [g4, Res.bind_ok, oneOf_mv, Res.pure_eq]
    | round l args =>
      simp only [runT, mvT] at hr ⊢
      split at hr
      · rename_i e ps a c st0 pd0 hq
        rw [h.get l _ hq]
        have hco := h.code l _ hq _ _ _ _ _ _ rfl
        simp only [mvO]
        obtain ⟨_, h1, hr⟩ := Res.bind_eq_ok.1 hr
        obtain ⟨_, h2, hr⟩ := Res.bind_eq_ok.1 hr
        obtain ⟨⟨x, e1, s1⟩, h3, hr⟩ := Res.bind_eq_ok.1 hr
        obtain ⟨s1', g3, hs1⟩ := mcode_sim hb ih a hco.1 _ _ _ h _ _ _ h3
        have hro : Res.need (decide (s'.ro ≤ l + b.next)) "yield: what came in" = .ok () := by
          rw [h.ro']
          have : decide (b.ro ≤ l + b.next) = true := by simp; omega
          rw [this]; rfl
        rw [← putL_mv] at g3
        simp only [List.length_map, h1, Res.bind_ok, hro, g3]
        have hx1 : x = .normal := by cases x <;> first | rfl | (simp at hr)
        subst hx1
        simp only [] at hr ⊢
        split at hr
        · rename_i e2 ps2 a2 c2 pd2 _ hq1
          rw [hs1.get l _ hq1]
          have hco1 := hs1.code l _ hq1 _ _ _ _ _ _ rfl
          simp only [mvO]
          obtain ⟨⟨y, e3, s3⟩, h4, hr⟩ := Res.bind_eq_ok.1 hr
          have hp := hs1.put l (.loop e2 ps2 a2 c2 .busy pd2) fun _ _ _ _ _ _ e => by cases e; exact hco1
          obtain ⟨s3', g4, hs3⟩ := mcode_sim hb ih c hco.2 _ _ _ hp _ _ _ h4
          have g4 : codeC (ctxOf (runT tab n) n) c (mvE b.next e1) (s1'.put (l + b.next) (.loop (mvE b.next e2) ps2 a2 c2 .busy pd2)) = .ok (y, mvE b.next e3, s3') := g4
          rw [g4]
          simp only [Res.bind_ok]
          split at hr
          · rename_i e4 ps4 a4 c4 st4 pd4 hq3
            rw [hs3.get l _ hq3]
            have hco3 := hs3.code l _ hq3 _ _ _ _ _ _ rfl
            simp only [mvO]
            cases y with
            | normal =>
              cases hr
              exact ⟨_, rfl, hs3.put l (.loop e4 ps4 a4 c4 .ready .normal) fun _ _ _ _ _ _ e => by cases e; exact hco3⟩
            | exit id =>
              cases hr
              exact ⟨_, rfl, hs3.put l (.loop e4 ps4 a4 c4 .done (.exit id)) fun _ _ _ _ _ _ e => by cases e; exact hco3⟩
            | ret =>
              cases hr
              exact ⟨_, rfl, hs3.put l (.loop e4 ps4 a4 c4 .done .ret) fun _ _ _ _ _ _ e => by cases e; exact hco3⟩
          · cases hr
        · cases hr
      · cases hr
end

/-- From nothing, and behind whatever is there. -/
theorem sv_start (b : St) : Sv b (st0 0) b where
  next := by simp [st0]
  ro := rfl
  ro' := rfl
  get := fun id o h => by simp [st0, St.get] at h
  keep := fun _ _ => rfl
  code := fun id o h => by simp [st0, St.get] at h

/-- Functions of a table hold no address. -/
def okTab (L : List (Nat × AFun)) : Bool := L.all fun p => okC p.2.body
theorem okTab_find : ∀ {L : List (Nat × AFun)}, okTab L = true → ∀ f a, findT L f = some a → okC a.body = true := by
  intro L
  induction L with
  | nil => intro _ f a h; cases h
  | cons p L ih =>
    intro hk f a h
    obtain ⟨k, q⟩ := p
    simp only [okTab, List.all_cons, Bool.and_eq_true] at hk
    simp only [findT] at h
    cases e : Nat.beq k f with
    | true => rw [e] at h; cases h; exact hk.1
    | false => rw [e] at h; exact ih hk.2 f a h

/-- What a run from nothing answers, a call answers anywhere; nothing that is there is turned. -/
theorem call_of_run {Γ : Funs} {K : Ctx} {L : List (Nat × AFun)} (hle : ∀ p ∈ L, Γ p.1 = some p.2) (hok : okTab L = true) (hF : Fix Γ K) {n : Nat} {f : FuncId} {args : List Value} (hargs : args.all constOk = true) {v : Value} (hv : constOk v = true) {t : St} (hr : runT (findT L) n (.call f args) (st0 0) = .ok (v, t))
    (st : St) (hro : st.ro ≤ st.next) : ∃ st', K.go (.call f args) st = .ok (v, st') ∧ st.next ≤ st'.next ∧ st'.ro = st.ro ∧ ∀ id, id < st.next → st'.get id = st.get id := by
  obtain ⟨st', e, hs⟩ := mgo_sim hro (okTab_find hok) n _ _ _ (sv_start st) _ _ hr
  have ha : args.map (mv st.next) = args := by
    clear hr e
    induction args with
    | nil => rfl
    | cons a args ih =>
      simp only [List.all_cons, Bool.and_eq_true] at hargs
      rw [List.map_cons, mv_const hargs.1, ih hargs.2]
  simp only [mvT, ha, mv_const hv] at e
  exact ⟨st', go_of_run (findT_le hle) hF n _ _ _ e, by rw [hs.next]; omega, hs.ro', hs.keep⟩
end Go.AM

