/-
  THE ABSTRACT MACHINE, 41: a run elsewhere: states, operations.
-/
import Derived.Test.YtenfblnmmmppbaaMoveA
set_option linter.unusedVariables false
set_option linter.unusedSectionVars false
set_option linter.unusedSimpArgs false
namespace Go.AM

def mvE (d : Nat) (e : Env) : Env := e.map fun p => (p.1, mv d p.2)
def mvO (d : Nat) : AObj → AObj
  | .cells xs => .cells (xs.map (mv d))
  | .map es => .map (es.map (mvP d))
  | .strIter s p => .strIter s p
  | .loop e ps a b s pd => .loop (mvE d e) ps a b s pd
  | .dead => .dead

def noG : Operand → Bool
  | .global _ => false
  | _ => true
def noGs (l : List Operand) : Bool := l.all noG
def noGo (x : Option Operand) : Bool := match x with | some x => noG x | none => true
def noGp (ps : List (Nat × Nat × Operand)) : Bool := ps.all fun p => noG p.2.2
/-- Operations that hold no address. -/
def okOp : AOp → Bool
  | .mv x => noG x
  | .pick c a b => noG c && noG a && noG b
  | .new z => z.all cellConst
  | .box x => noG x
  | .build z ps => z.all cellConst && noGp ps
  | .lit _ _ z ps => z.all cellConst && noGp ps
  | .load _ a => noG a
  | .store _ a x => noG a && noG x
  | .nilc x => noG x
  | .bin _ x y => noG x && noG y
  | .eq _ _ x y => noG x && noG y
  | .un _ x => noG x
  | .conv _ x => noG x
  | .iface _ x => noG x
  | .fn _ a c => noGs a && noGs c
  | .newMap => true
  | .mkSlice _ _ z l c => z.all cellConst && noG l && noG c
  | .slice _ x lo hi mx => noG x && noGo lo && noGo hi && noGo mx
  | .off _ x => noG x
  | .field _ _ x => noG x
  | .ixA _ _ x i => noG x && noG i
  | .ixS x i => noG x && noG i
  | .ixV _ _ _ x i => noG x && noG i
  | .look _ z _ x k => constOk z && noG x && noG k
  | .mapSet _ m k v => noG m && noG k && noG v
  | .rangeStr x => noG x
  | .nextStr x => noG x
  | .assert _ z _ x => constOk z && noG x
  | .extract x _ => noG x
  | .len _ x => noG x
  | .append _ _ x y => noG x && noG y
  | .copy _ x y => noG x && noG y
  | .clear z x => z.all cellConst && noG x
  | .delete _ x k => noG x && noG k
  | .minmax _ x ys => noG x && noGs ys
  | .call f args => noG f && noGs args
  | .lbox x => noG x
  | .lnew z => z.all cellConst
  | .lref x => noG x
  | .upd _ _ d x => noG d && noG x
def okC : ACode → Bool
  | .skip => true
  | .ops l => l.all fun o => okOp o.op
  | .draw l => l.all fun o => okOp o.o.op
  | .seq a b => okC a && okC b
  | .cond c a b => noG c && okC a && okC b
  | .block _ b => okC b
  | .loop b => okC b
  | .range f _ a b => noG f && okC a && okC b
  | .exit _ => true
  | .ret => true
  | .keep _ => true
def okO (o : AObj) : Prop := ∀ e ps a c s p, o = .loop e ps a c s p → okC a = true ∧ okC c = true

/-- It comes to that, if it comes to anything. -/
def RR {α β : Type} (g : α → β) (x : Res α) (y : Res β) : Prop := ∀ a, x = .ok a → y = .ok (g a)
theorem RR.of_eq {α β : Type} {g : α → β} {x : Res α} {y : Res β} (h : y = mapR g x) : RR g x y := fun a e => by rw [h, e]; rfl
theorem RR.bind {α β γ δ : Type} {f : α → β} {g : γ → δ} {x : Res α} {y : Res β} {k : α → Res γ} {k' : β → Res δ} (h : RR f x y) (hk : ∀ a, x = .ok a → RR g (k a) (k' (f a))) : RR g (x >>= k) (y >>= k') := fun c e => by
  obtain ⟨a, e1, e2⟩ := Res.bind_eq_ok.1 e
  rw [h a e1]
  exact hk a e1 c e2
theorem RR.same {α γ δ : Type} {g : γ → δ} {x : Res α} {k : α → Res γ} {k' : α → Res δ} (hk : ∀ a, x = .ok a → RR g (k a) (k' a)) : RR g (x >>= k) (x >>= k') := fun c e => by
  obtain ⟨a, e1, e2⟩ := Res.bind_eq_ok.1 e
  rw [e1]
  exact hk a e1 c e2
theorem RR.err {α β : Type} {g : α → β} {m : String} {y : Res β} : RR g (.err m) y := fun a e => by cases e

/-- A state, and the same behind what is there. -/
structure Sv (b s s' : St) : Prop where
  next : s'.next = s.next + b.next
  ro : s.ro = 0
  ro' : s'.ro = b.ro
  get : ∀ id o, s.get id = some o → s'.get (id + b.next) = some (mvO b.next o)
  keep : ∀ id, id < b.next → s'.get id = b.get id
  code : ∀ id o, s.get id = some o → okO o

section
variable {b s s' : St} (h : Sv b s s')
include h

theorem Sv.put (id : Nat) (o : AObj) (ho : okO o) : Sv b (s.put id o) (s'.put (id + b.next) (mvO b.next o)) where
  next := h.next
  ro := h.ro
  ro' := h.ro'
  get := fun i x hx => by
    rw [get_put] at hx ⊢
    by_cases e : i = id
    · subst e
      rw [if_pos rfl] at hx ⊢
      cases hx; rfl
    · rw [if_neg e] at hx
      rw [if_neg (by omega)]; exact h.get i x hx
  keep := fun i hi => by rw [get_put, if_neg (by omega)]; exact h.keep i hi
  code := fun i x hx => by
    rw [get_put] at hx
    split at hx
    · cases hx; exact ho
    · exact h.code i x hx
theorem Sv.alloc (o : AObj) (ho : okO o) : Sv b (s.alloc o) (s'.alloc (mvO b.next o)) where
  next := by show s'.next + 1 = s.next + 1 + b.next; have := h.next; omega
  ro := h.ro
  ro' := h.ro'
  get := fun i x hx => by
    rw [get_alloc] at hx ⊢
    rw [h.next]
    by_cases e : i = s.next
    · subst e
      rw [if_pos rfl] at hx ⊢
      cases hx; rfl
    · rw [if_neg e] at hx
      rw [if_neg (by omega)]; exact h.get i x hx
  keep := fun i hi => by rw [get_alloc, if_neg (by have := h.next; omega)]; exact h.keep i hi
  code := fun i x hx => by
    rw [get_alloc] at hx
    split at hx
    · cases hx; exact ho
    · exact h.code i x hx
theorem okO_cells (xs : List Value) : okO (.cells xs) := fun _ _ _ _ _ _ e => by cases e
theorem okO_map (es : List (Value × Value)) : okO (.map es) := fun _ _ _ _ _ _ e => by cases e
theorem okO_iter (t : ByteArray) (p : Nat) : okO (.strIter t p) := fun _ _ _ _ _ _ e => by cases e
theorem okO_dead : okO .dead := fun _ _ _ _ _ _ e => by cases e

theorem cells_sv (id : Nat) : RR (List.map (mv b.next)) (s.cells id) (s'.cells (id + b.next)) := fun xs e => by
  unfold St.cells at e ⊢
  cases hq : s.get id with
  | none => rw [hq] at e; cases e
  | some o =>
    rw [hq] at e
    rw [h.get _ _ hq]
    cases o <;> first | (cases e; rfl) | (cases e; done)
theorem map_sv (id : Nat) : RR (List.map (mvP b.next)) (s.map id) (s'.map (id + b.next)) := fun xs e => by
  unfold St.map at e ⊢
  cases hq : s.get id with
  | none => rw [hq] at e; cases e
  | some o =>
    rw [hq] at e
    rw [h.get _ _ hq]
    cases o <;> first | (cases e; rfl) | (cases e; done)
theorem load1_sv (id o : Nat) : RR (mv b.next) (s.load1 id o) (s'.load1 (id + b.next) o) := by
  unfold St.load1
  exact .bind (cells_sv h id) fun xs _ => .of_eq (by rw [List.getElem?_map, mapR_of])
theorem loadN_sv (id o n : Nat) : RR (List.map (mv b.next)) (s.loadN id o n) (s'.loadN (id + b.next) o n) := by
  unfold St.loadN
  exact .bind (cells_sv h id) fun xs _ => .of_eq (by simp only [List.length_map, mapR_bind, Res.pure_eq, mapR_ok, List.map_take, List.map_drop])

/-- It comes to the same, elsewhere. -/
def SvR (b : St) {α : Type} (f : α → α) (x y : Res (α × St)) : Prop := ∀ v t, x = .ok (v, t) → ∃ t', y = .ok (f v, t') ∧ Sv b t t'
omit h in
theorem SvR.bind {α β : Type} {f : α → α} {g : β → β} {x y : Res (α × St)} {k k' : α × St → Res (β × St)} (hx : SvR b f x y) (hk : ∀ v t t', Sv b t t' → SvR b g (k (v, t)) (k' (f v, t'))) : SvR b g (x >>= k) (y >>= k') := fun v t e => by
  obtain ⟨⟨a, t1⟩, e1, e2⟩ := Res.bind_eq_ok.1 e
  obtain ⟨t1', e3, h1⟩ := hx _ _ e1
  rw [e3]
  exact hk _ _ _ h1 _ _ e2
omit h in
theorem SvR.need {α : Type} {f : α → α} {c c' : Bool} {m : String} {x y : Unit → Res (α × St)} (hc : c = true → c' = true) (hx : SvR b f (x ()) (y ())) : SvR b f (Res.need c m >>= x) (Res.need c' m >>= y) := fun v t e => by
  obtain ⟨u, e1, e2⟩ := Res.bind_eq_ok.1 e
  rw [hc (Res.need_eq_ok.1 e1)]
  exact hx _ _ e2
omit h in
theorem SvR.val {α β γ : Type} {f : γ → γ} {g : α → β} {x : Res α} {y : Res β} {k : α → Res (γ × St)} {k' : β → Res (γ × St)} (hx : RR g x y) (hk : ∀ a, x = .ok a → SvR b f (k a) (k' (g a))) : SvR b f (x >>= k) (y >>= k') := fun v t e => by
  obtain ⟨a, e1, e2⟩ := Res.bind_eq_ok.1 e
  rw [hx a e1]
  exact hk a e1 _ _ e2
omit h in
theorem SvR.same {α β : Type} {f : β → β} {x : Res α} {k k' : α → Res (β × St)} (hk : ∀ a, x = .ok a → SvR b f (k a) (k' a)) : SvR b f (x >>= k) (x >>= k') := fun v t e => by
  obtain ⟨a, e1, e2⟩ := Res.bind_eq_ok.1 e
  rw [e1]
  exact hk a e1 _ _ e2
omit h in
theorem SvR.ok {α : Type} {f : α → α} {v w : α} {t t' : St} (hv : w = f v) (ht : Sv b t t') : SvR b f (.ok (v, t)) (.ok (w, t')) := fun v' t1 e => by
  cases e
  subst hv
  exact ⟨t', rfl, ht⟩
omit h in
theorem SvR.err {α : Type} {f : α → α} {m : String} {y : Res (α × St)} : SvR b f (.err m) y := fun v t e => by cases e

theorem storeN_sv (hb : b.ro ≤ b.next) (id o : Nat) (vs : List Value) {t : St} (e : s.storeN id o vs = .ok t) : ∃ t', s'.storeN (id + b.next) o (vs.map (mv b.next)) = .ok t' ∧ Sv b t t' := by
  unfold St.storeN at e ⊢
  obtain ⟨xs, e1, e⟩ := Res.bind_eq_ok.1 e
  obtain ⟨_, _, e⟩ := Res.bind_eq_ok.1 e
  obtain ⟨_, e2, e⟩ := Res.bind_eq_ok.1 e
  obtain ⟨_, e3, e⟩ := Res.bind_eq_ok.1 e
  have e2 := Res.need_eq_ok.1 e2
  have e3 := Res.need_eq_ok.1 e3
  have hro : decide (s'.ro ≤ id + b.next) = true := by rw [h.ro']; simp; omega
  cases e
  refine ⟨s'.put (id + b.next) (mvO b.next (.cells (splice xs o vs))), ?_, h.put _ _ (okO_cells h _)⟩
  simp only [cells_sv h _ _ e1, Res.bind_ok, hro, Res.need_true, List.length_map, e2, all_cellOk_mv, e3, splice_mv, Res.pure_eq, mvO]

theorem firstL_sv (k n : Nat) (x : Value) : RR (List.map (mv b.next)) (firstL s k n x) (firstL s' k n (mv b.next x)) := by
  cases x with
  | slice a n c =>
    rcases a with _ | ⟨q, o, x⟩
    · exact .of_eq rfl
    · cases x with
      | none =>
        simp only [mv_slice, firstL]
        exact .same fun _ _ => loadN_sv h _ _ _
      | some y => exact .err
  | string t =>
    refine .of_eq ?_
    simp only [mv_string, firstL, mapR_ok, List.map_map]
    rfl
  | _ => exact .err

theorem aappend_sim (hb : b.ro ≤ b.next) (k bytes : Nat) (x y : Value) : SvR b (mv b.next) (aappend s k bytes x y) (aappend s' k bytes (mv b.next x) (mv b.next y)) := by
  cases x with
  | slice base n c =>
    rcases base with _ | ⟨q, o, w⟩
    · rw [mv_slice0]
      unfold aappend
      simp only []
      rw [lenL_mv]
      refine .same fun m hm => ?_
      refine .val (firstL_sv h _ _ _) fun new hn => ?_
      refine .need (by simp) ?_
      split
      · exact .ok rfl h
      · refine .need (by simp) (.need (by simp) (.need (by simp) ?_))
        exact .ok (by rw [mv_slice, h.next]) (h.alloc _ (okO_cells h _))
    · cases w with
      | some w =>
        rw [mv_slice]
        unfold aappend
        simp only []
        rw [lenL_mv]
        refine .same fun m hm => ?_
        refine .val (firstL_sv h _ _ _) fun new hn => ?_
        refine .need (by simp) ?_
        split
        · exact .ok rfl h
        · exact .need (by simp) (.need (by simp) .err)
      | none =>
        rw [mv_slice]
        unfold aappend
        simp only []
        rw [lenL_mv]
        refine .same fun m hm => ?_
        refine .val (firstL_sv h _ _ _) fun new hn => ?_
        refine .need (by simp) ?_
        split
        · exact .ok rfl h
        · refine .need (by simp) (.need (by simp) (.need (by simp) ?_))
          refine .val (cells_sv h q) fun xs hx => ?_
          refine .need (fun _ => by rw [h.ro']; simp; omega) ?_
          rw [List.length_map]
          split
          · intro v t e
            obtain ⟨t1, e2, e⟩ := Res.bind_eq_ok.1 e
            obtain ⟨t', e3, h2⟩ := storeN_sv h hb _ _ _ e2
            cases e
            exact ⟨t', by rw [e3]; rfl, h2⟩
          · refine .need (by simp) ?_
            refine .ok (by rw [mv_slice, h.next]) ?_
            have := ((h.put q .dead (okO_dead h)).alloc (.cells (xs.drop o ++ new)) (okO_cells h _))
            simpa [mvO, List.map_drop] using this
  | _ => exact .err
theorem acopy_sim (hb : b.ro ≤ b.next) (k : Nat) (x y : Value) : SvR b (mv b.next) (acopy s k x y) (acopy s' k (mv b.next x) (mv b.next y)) := by
  cases x with
  | slice base n c =>
    rcases base with _ | ⟨q, o, w⟩
    · rw [mv_slice0]
      unfold acopy
      simp only []
      rw [lenL_mv]
      refine .same fun m hm => ?_
      refine .val (firstL_sv h _ _ _) fun new hn => ?_
      refine .need (by simp) ?_
      exact .ok rfl h
    · cases w with
      | some w =>
        rw [mv_slice]
        unfold acopy
        simp only []
        rw [lenL_mv]
        refine .same fun m hm => ?_
        refine .val (firstL_sv h _ _ _) fun new hn => ?_
        exact .need (by simp) .err
      | none =>
        rw [mv_slice]
        unfold acopy
        simp only []
        rw [lenL_mv]
        refine .same fun m hm => ?_
        refine .val (firstL_sv h _ _ _) fun new hn => ?_
        refine .need (by simp) (.need (by simp) ?_)
        intro v t e
        obtain ⟨t1, e2, e⟩ := Res.bind_eq_ok.1 e
        obtain ⟨t', e3, h2⟩ := storeN_sv h hb _ _ _ e2
        cases e
        exact ⟨t', by rw [e3]; rfl, h2⟩
  | _ => exact .err
theorem aclear_sim (hb : b.ro ≤ b.next) {z : List Value} (hz : z.map (mv b.next) = z) (x : Value) : SvR b (mv b.next) (aclear s z x) (aclear s' z (mv b.next x)) := by
  cases x with
  | slice base n c =>
    rcases base with _ | ⟨q, o, w⟩
    · exact .ok rfl h
    · cases w with
      | some w => exact .err
      | none =>
        rw [mv_slice]
        unfold aclear
        simp only []
        split
        · exact .ok rfl h
        · refine .need (by simp) ?_
          intro v t e
          obtain ⟨t1, e2, e⟩ := Res.bind_eq_ok.1 e
          obtain ⟨t', e3, h2⟩ := storeN_sv h hb _ _ _ e2
          rw [zerosL_mv hz] at e3
          cases e
          exact ⟨t', by rw [e3]; rfl, h2⟩
  | _ => exact .err
theorem mapOf_sv (x : Value) : RR (List.map (mvP b.next)) (mapOf s x) (mapOf s' (mv b.next x)) := by
  cases x with
  | map a => cases a with
    | none => exact .of_eq rfl
    | some r => exact map_sv h r
  | _ => exact .err
theorem alook_sv (q : KeyK) {z : Value} (hz : mv b.next z = z) (ok : Bool) (x k : Value) : RR (mv b.next) (alook s q z ok x k) (alook s' q z ok (mv b.next x) (mv b.next k)) := by
  unfold alook
  rw [keyOk_mv]
  refine .same fun _ _ => .bind (mapOf_sv h x) fun es _ => .bind (.of_eq (findK_mv q k es 0)) fun r _ => .of_eq ?_
  cases r with
  | none => cases ok <;> simp [hz]
  | some p => cases ok <;> simp
theorem amapSet_sim (hb : b.ro ≤ b.next) (q : KeyK) (m k v : Value) {t : St} (e : amapSet s q m k v = .ok t) : ∃ t', amapSet s' q (mv b.next m) (mv b.next k) (mv b.next v) = .ok t' ∧ Sv b t t' := by
  cases m with
  | map a =>
    cases a with
    | none => cases e
    | some r =>
      rw [mv_map]
      unfold amapSet at e ⊢
      simp only [] at e ⊢
      obtain ⟨es, e1, e⟩ := Res.bind_eq_ok.1 e
      obtain ⟨_, e2, e⟩ := Res.bind_eq_ok.1 e
      obtain ⟨_, _, e⟩ := Res.bind_eq_ok.1 e
      obtain ⟨w, e4, e⟩ := Res.bind_eq_ok.1 e
      have hro : decide (s'.ro ≤ r + b.next) = true := by rw [h.ro']; simp; omega
      simp only [map_sv h _ _ e1, mapR_ok, Res.bind_ok, keyOk_mv, Res.need_eq_ok.1 e2, Res.need_true, hro, findK_mv, e4]
      cases e
      cases w with
      | none => exact ⟨_, rfl, by
          have := h.put r (.map (es ++ [(k, v)])) (okO_map h _)
          simpa [mvO, mvP] using this⟩
      | some p => exact ⟨_, rfl, by
          have := h.put r (.map (es.set p.1 (k, v))) (okO_map h _)
          simpa [mvO, mvP, List.map_set] using this⟩
  | _ => cases e
omit h in
theorem map_erase {α β : Type} (f : α → β) : ∀ (l : List α) (i : Nat), (l.map f).eraseIdx i = (l.eraseIdx i).map f := by
  intro l
  induction l with
  | nil => intro i; rfl
  | cons x l ih =>
    intro i
    cases i with
    | zero => rfl
    | succ i => simp [ih]
theorem adelete_sim (hb : b.ro ≤ b.next) (q : KeyK) (m k : Value) {t : St} (e : adelete s q m k = .ok t) : ∃ t', adelete s' q (mv b.next m) (mv b.next k) = .ok t' ∧ Sv b t t' := by
  cases m with
  | map a =>
    cases a with
    | none =>
      rw [mv_map0]
      unfold adelete at e ⊢
      simp only [] at e ⊢
      obtain ⟨_, e2, e⟩ := Res.bind_eq_ok.1 e
      cases e
      exact ⟨s', by rw [keyOk_mv, Res.need_eq_ok.1 e2]; rfl, h⟩
    | some r =>
      rw [mv_map]
      unfold adelete at e ⊢
      simp only [] at e ⊢
      obtain ⟨es, e1, e⟩ := Res.bind_eq_ok.1 e
      obtain ⟨_, e2, e⟩ := Res.bind_eq_ok.1 e
      obtain ⟨_, _, e⟩ := Res.bind_eq_ok.1 e
      obtain ⟨w, e4, e⟩ := Res.bind_eq_ok.1 e
      have hro : decide (s'.ro ≤ r + b.next) = true := by rw [h.ro']; simp; omega
      simp only [map_sv h _ _ e1, mapR_ok, Res.bind_ok, keyOk_mv, Res.need_eq_ok.1 e2, Res.need_true, hro, findK_mv, e4]
      cases e
      cases w with
      | none => exact ⟨_, rfl, by
          have := h.put r (.map es) (okO_map h _)
          simpa [mvO, mvP] using this⟩
      | some p => exact ⟨_, rfl, by
          have := h.put r (.map (es.eraseIdx p.1)) (okO_map h _)
          simpa [mvO, mvP, map_erase] using this⟩
  | _ => cases e
theorem aslice_sv (k : SliceK) (x : Value) (lo hi mx : Option Value) : RR (mv b.next) (aslice s k x lo hi mx) (aslice s' k (mv b.next x) (lo.map (mv b.next)) (hi.map (mv b.next)) (mx.map (mv b.next))) := by
  cases k with
  | str =>
    cases x with
    | string t => exact .of_eq (by simp only [aslice, mv_string, Option.isNone_map, boundO_mv, mapR_bind, Res.pure_eq, mapR_ok])
    | _ => exact .err
  | slice k =>
    cases x with
    | slice a n c =>
      rcases a with _ | ⟨q, o, w⟩
      · exact .of_eq (by simp only [aslice, mv_slice0, Option.isNone_map, boundO_mv, mapR_bind, Res.pure_eq, mapR_ok])
      · cases w with
        | some w => exact .err
        | none =>
          simp only [aslice, mv_slice]
          refine .same fun _ _ => .bind (cells_sv h q) fun xs _ => ?_
          rw [List.length_map]
          refine .same fun _ _ => .of_eq ?_
          cases mx with
          | none => simp only [Option.map_none, boundO_mv, mapR_bind, Res.pure_eq, mapR_ok, mv_slice]
          | some m =>
            simp only [Option.map_some, bound_mv, boundO_mv, Option.isSome_map, mapR_bind, Res.pure_eq, mapR_ok]
            rfl
    | _ => exact .err
  | arr n k =>
    cases x with
    | pointer a =>
      rcases a with _ | ⟨q, o, w⟩
      · exact .err
      · cases w with
        | some w => exact .err
        | none =>
          simp only [aslice, mv_ptr, Option.isNone_map]
          refine .same fun _ _ => .bind (cells_sv h q) fun xs _ => .of_eq ?_
          simp only [List.length_map, boundO_mv, mapR_bind, Res.pure_eq, mapR_ok, mv_slice]
    | _ => exact .err
theorem aconv_sim (k : ConvK) (x : Value) : SvR b (mv b.next) (aconv s k x) (aconv s' k (mv b.next x)) := by
  cases k with
  | same =>
    cases x with
    | string t => exact .ok rfl h
    | _ => exact .err
  | int k =>
    cases x with
    | int q n => exact .ok rfl h
    | _ => exact .err
  | strOfInt => cases x <;> exact .err
  | strOfBytes =>
    cases x with
    | slice a n c =>
      have hf := firstL_sv h 1 n (.slice a n c)
      have hn : ((a.map fun q => (⟨q.block + b.next, q.off, q.spot⟩ : Addr)).isNone) = a.isNone := by cases a <;> rfl
      have e : mv b.next (.slice a n c) = .slice (a.map fun q => (⟨q.block + b.next, q.off, q.spot⟩ : Addr)) n c := by rcases a with _ | ⟨q, o, w⟩ <;> rfl
      rw [e] at hf ⊢
      unfold aconv
      simp only []
      rw [hn]
      refine .same fun _ _ => ?_
      refine .val hf fun l hl => ?_
      refine .need (by simp) ?_
      rw [bytesL_mv]
      exact .same fun t _ => .ok rfl h
    | _ => exact .err
  | bytesOfStr =>
    cases x with
    | string t =>
      unfold aconv
      simp only [mv_string]
      refine .same fun _ _ => ?_
      refine .ok (by rw [mv_slice, h.next]) ?_
      have := h.alloc (.cells (t.data.toList.map fun b => .int .u8 b.toNat)) (okO_cells h _)
      simpa [mvO, List.map_map, Function.comp_def] using this
    | _ => exact .err
end
end Go.AM

