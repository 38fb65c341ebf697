/-
  THE ABSTRACT MACHINE, 31: boxes that no one else sees, kept in slots: how the code is turned.
-/
import Derived.Test.YtlpdlohikfkjnaaDoorAmB
import Derived.KernelRfl
import Derived.IntWalk
import Derived.ChangeArms
import Derived.Handed
import Derived.HandedShaped
import Derived.WideKeyArgs
import Derived.OpenShut
set_option linter.unusedVariables false
set_option linter.unusedSimpArgs false
namespace Go.AM
structure Hint where
 np : Nat
 boxes : List Tmp
 refs : List Tmp
 inner : List (List Tmp)
def inL (t : Tmp) (l : List Tmp) : Bool := l.any fun u => Nat.beq u t
theorem inL_iff {t : Tmp} {l : List Tmp} : inL t l = true ↔ t ∈ l := by
 unfold inL
 rw [List.any_eq_true]
 exact ⟨fun ⟨u, hu, h⟩ => by rw [← Nat.eq_of_beq_eq_true h]; exact hu, fun h => ⟨t, h, Nat.beq_refl t⟩⟩
def Hint.deep (h : Hint) (t : Tmp) : Bool := h.inner.any fun l => inL t l
def Hint.spec (h : Hint) (t : Tmp) : Bool := inL t h.boxes || (inL t h.refs || h.deep t)
def Hint.enter (h : Hint) : Hint := ⟨h.np, h.inner.headD [], h.boxes ++ h.refs, h.inner.tail⟩
def Hint.free (h : Hint) (l : List Tmp) : Bool := l.all fun t => !h.spec t
def Hint.freeD (h : Hint) : Option Tmp → Bool
 | some t => !h.spec t
 | none => true
def Hint.freeG (h : Hint) : Option (Tmp × Bool) → Bool
 | some (t, _) => !h.spec t
 | none => true
structure Al where
 a : Tmp
 d : Tmp
 k : Nat
 g : Option (Tmp × Bool)
def Al.hit (t : Tmp) (x : Al) : Bool := Nat.beq x.a t || Nat.beq x.d t || (match x.g with | some (u, _) => Nat.beq u t | none => false)
def kill (t : Tmp) (al : List Al) : List Al := al.filter fun x => !x.hit t
def killD (t : Option Tmp) (al : List Al) : List Al := match t with | some t => kill t al | none => al
def sameG : Option (Tmp × Bool) → Option (Tmp × Bool) → Bool
 | none, _ => true
 | some (t, b), some (u, c) => Nat.beq t u && (b == c)
 | _, _ => false
def findAl (h : Hint) (al : List Al) (g : Option (Tmp × Bool)) (t : Tmp) : Option (Tmp × Nat) :=
 if inL t h.boxes then some (t, 0)
 else match al.find? (fun x => Nat.beq x.a t) with
  | some x => if sameG x.g g then some (x.d, x.k) else none
  | none => none
inductive TKind where
 | gen
 | ld (d : Tmp)
 | own (l : List Tmp)
def TKind.tch : TKind → List Tmp
 | .own l => l
 | _ => []
def trGen (h : Hint) (al : List Al) (dst : Option Tmp) (o : AOp) : Option (TKind × AOp × Option Tmp × List Al) :=
 if h.free o.reads && h.freeD dst then some (.gen, o, dst, killD dst al) else none
def trOp (h : Hint) (al : List Al) (g : Option (Tmp × Bool)) (dst : Option Tmp) (o : AOp) : Option (TKind × AOp × Option Tmp × List Al) :=
 match o, dst with
 | .box x, some d => if inL d h.boxes then (if h.free (opdT x) then some (.own [d], .lbox x, some d, kill d al) else none) else trGen h al dst o
 | .new z, some d => if inL d h.boxes then some (.own [d], .lnew z, some d, kill d al) else trGen h al dst o
 | .off k (.tmp d), some a => if inL d h.boxes then (if inL a h.refs && !inL a h.boxes then some (.own [], .lref (.tmp d), some a, ⟨a, d, k, g⟩ :: kill a al) else none) else trGen h al dst o
 | .load m (.tmp t), some v =>
   if h.spec t then
    match findAl h al g t with
    | some (d, k) => if !h.spec v then some (.ld d, .field m k (.tmp d), some v, kill v al) else none
    | none => none
   else trGen h al dst o
 | .store n (.tmp t) x, none =>
   if h.spec t then
    match findAl h al g t with
    | some (d, k) => if h.free (opdT x) && g.isNone then some (.own [d], .upd n k (.tmp d) x, some d, al) else none
    | none => none
   else trGen h al dst o
 | _, _ => trGen h al dst o
def trOps (h : Hint) : List Al → List AOper → Option (List AOper)
 | _, [] => some []
 | al, o :: l =>
   if h.freeG o.guard then
    match trOp h al o.guard o.dst o.op with
    | some (_, op, dst, al') =>
      match trOps h al' l with
      | some l' => some (⟨dst, o.guard, op⟩ :: l')
      | none => none
    | none => none
   else none
def drOk (tch : List Tmp) (d : DOper) : TKind → Bool
 | .gen => true
 | .ld t => d.writes || Nat.beq d.back 0 || !inL t tch
 | .own _ => d.writes || Nat.beq d.back 0
def trDraw (h : Hint) : List Al → List Tmp → List DOper → Option (List DOper)
 | _, _, [] => some []
 | al, tch, d :: l =>
   if h.freeG d.o.guard then
    match trOp h al d.o.guard d.o.dst d.o.op with
    | some (kd, op, dst, al') =>
      if drOk tch d kd then
       match trDraw h al' (kd.tch ++ tch) l with
       | some l' => some (⟨d.ix, d.back, d.writes, ⟨dst, d.o.guard, op⟩⟩ :: l')
       | none => none
      else none
    | none => none
   else none
def trC : Hint → ACode → Option ACode
 | _, .skip => some .skip
 | h, .ops l => (trOps h [] l).map .ops
 | h, .draw l => (trDraw h [] [] l).map .draw
 | h, .seq a b => match trC h a with | some a' => (trC h b).map (.seq a') | none => none
 | h, .cond c a b => if h.free (opdT c) then (match trC h a with | some a' => (trC h b).map (.cond c a') | none => none) else none
 | h, .block i b => (trC h b).map (.block i)
 | h, .loop b => (trC h b).map .loop
 | h, .range f ps a b =>
   if h.free (opdT f) && (h.free ps && h.inner.all fun l => l.all fun d => !inL d h.boxes) then
    match trC h.enter a with
    | some a' => (trC h.enter b).map (.range f ps a')
    | none => none
   else none
 | _, .exit i => some (.exit i)
 | _, .ret => some .ret
 | _, .keep l => some (.keep l)
def trRes (h : Hint) : List ARes → Option (List ARes)
 | [] => some []
 | .tmp t :: l => if h.spec t then none else (trRes h l).map (.tmp t :: ·)
 | .cell t n :: l => if inL t h.boxes then (trRes h l).map (.part t n :: ·) else if h.spec t then none else (trRes h l).map (.cell t n :: ·)
 | .part _ _ :: _ => none
def trF (h : Hint) (fn : AFun) : Option AFun :=
 if h.boxes.all (Nat.ble h.np) && h.refs.all (Nat.ble h.np) && h.inner.all (fun l => l.all (Nat.ble h.np)) && Nat.ble h.np fn.ntmps then
  match trC h fn.body, trRes h fn.results with
  | some c, some rs => some ⟨h.np, rs, c⟩
  | _, _ => none
 else none
def findH : List (Nat × Hint) → Nat → Option Hint
 | [], _ => none
 | (g, h) :: l, f => bif Nat.beq g f then some h else findH l f
def hide (Γ : Funs) (hs : List (Nat × Hint)) : Funs := fun f => match findH hs f with | none => Γ f | some h => (Γ f).bind (trF h)
theorem enter_spec (h : Hint) (t : Tmp) : h.enter.spec t = h.spec t := by
 unfold Hint.spec Hint.deep Hint.enter
 have happ : inL t (h.boxes ++ h.refs) = (inL t h.boxes || inL t h.refs) := by simp [inL, List.any_append]
 cases hi : h.inner with
 | nil =>
   simp only [List.headD_nil, List.tail_nil, List.any_nil, happ]
   cases inL t h.boxes <;> cases inL t h.refs <;> rfl
 | cons l ls =>
   simp only [List.headD_cons, List.tail_cons, List.any_cons, happ]
   cases inL t l <;> cases inL t h.boxes <;> cases inL t h.refs <;> cases (ls.any fun l => inL t l) <;> rfl
inductive ObjR : Option AObj → Option AObj → Prop
 | refl (o : Option AObj) : ObjR o o
 | loop {h : Hint} {e e' : Env} {ps : List Tmp} {a b a' b' : ACode} {st : LoopState} {pd : AExit} (ha : trC h a = some a') (hb : trC h b = some b') (hp : h.free ps = true) (he : ∀ t, h.spec t = false → e.at t = e'.at t)
    (hn : ∀ d cs, (inL d h.boxes = true ∨ h.deep d = true) → e'.at d ≠ .agg cs) : ObjR (some (.loop e ps a b st pd)) (some (.loop e' ps a' b' st pd))
theorem ObjR.eq {o o' : Option AObj} (h : ObjR o o') (k : ∀ e ps a b st pd, o' ≠ some (.loop e ps a b st pd)) : o = o' := by
 cases h with
 | refl o => rfl
 | loop => exact absurd rfl (k _ _ _ _ _ _)
end Go.AM
set_option linter.unusedVariables false
set_option linter.unusedSimpArgs false
namespace Go.AM
abbrev Hid := Nat → Option (List Value)
structure Sim (H : Hid) (s s' : St) : Prop where
 next : s.next = s'.next
 ro : s.ro = s'.ro
 roNext : s.ro ≤ s.next
 hid : ∀ id c, H id = some c → s.get id = some (.cells c) ∧ s'.get id = some .dead ∧ id < s.next ∧ s.ro ≤ id
 same : ∀ id, H id = none → ObjR (s.get id) (s'.get id)
section
variable {H : Hid} {s s' s2 : St}
theorem Sim.get (h : Sim H s s') {id : Nat} {o : AObj} (hg : s'.get id = some o) (ho : o ≠ .dead) (hl : ∀ e ps a b st pd, o ≠ .loop e ps a b st pd) : s.get id = some o ∧ H id = none := by
 cases hH : H id with
 | none => exact ⟨((h.same id hH).eq fun e ps a b st pd hh => hl e ps a b st pd (by rw [hg] at hh; exact Option.some.inj hh)).trans hg, rfl⟩
 | some c => have := (h.hid id c hH).2.1; rw [hg] at this; cases this; exact absurd rfl ho
theorem Sim.getLoop (h : Sim H s s') {id : Nat} {e' : Env} {ps : List Tmp} {a' b' : ACode} {st : LoopState} {pd : AExit} (hg : s'.get id = some (.loop e' ps a' b' st pd)) :
 ∃ e a b, s.get id = some (.loop e ps a b st pd) ∧ H id = none ∧ ((e = e' ∧ a = a' ∧ b = b') ∨ ∃ h : Hint, trC h a = some a' ∧ trC h b = some b' ∧ h.free ps = true ∧ (∀ t, h.spec t = false → e.at t = e'.at t) ∧ ∀ d cs, (inL d h.boxes = true ∨ h.deep d = true) → e'.at d ≠ .agg cs) := by
 cases hH : H id with
 | none =>
   have hs := h.same id hH
   rw [hg] at hs
   cases hs' : s.get id with
   | none => rw [hs'] at hs; cases hs
   | some o =>
     rw [hs'] at hs
     cases hs with
     | refl => exact ⟨_, _, _, rfl, rfl, .inl ⟨rfl, rfl, rfl⟩⟩
     | loop ha hb hp he hn => exact ⟨_, _, _, rfl, rfl, .inr ⟨_, ha, hb, hp, he, hn⟩⟩
 | some c => have := (h.hid id c hH).2.1; rw [hg] at this; cases this
theorem Sim.cells (h : Sim H s s') {b : Nat} {xs : List Value} (k : s'.cells b = .ok xs) : s.cells b = .ok xs ∧ H b = none := by
 unfold St.cells at k ⊢
 split at k
 ·rename_i hg
  cases k
  obtain ⟨h1, h2⟩ := h.get hg (by simp) (by simp)
  exact ⟨by rw [h1], h2⟩
 ·cases k
theorem Sim.map (h : Sim H s s') {b : Nat} {xs : List (Value × Value)} (k : s'.map b = .ok xs) : s.map b = .ok xs ∧ H b = none := by
 unfold St.map at k ⊢
 split at k
 ·rename_i hg
  cases k
  obtain ⟨h1, h2⟩ := h.get hg (by simp) (by simp)
  exact ⟨by rw [h1], h2⟩
 ·cases k
theorem get_put' (st : St) (i : Nat) (o : AObj) (id : Nat) : (st.put i o).get id = if id = i then some o else st.get id := by rw [St.get_put]; rfl
theorem get_alloc' (st : St) (o : AObj) (id : Nat) : (st.alloc o).get id = if id = st.next then some o else st.get id := by rw [St.get_alloc]; rfl
theorem Sim.put2 (h : Sim H s s') {b : Nat} (hb : H b = none) {o o' : AObj} (ho : ObjR (some o) (some o')) : Sim H (s.put b o) (s'.put b o') where
 next := h.next
 ro := h.ro
 roNext := h.roNext
 hid := fun id c hc => by
  have hne : id ≠ b := fun e => by rw [e, hb] at hc; cases hc
  obtain ⟨h1, h2, h3, h4⟩ := h.hid id c hc
  exact ⟨by rw [get_put', if_neg hne]; exact h1, by rw [get_put', if_neg hne]; exact h2, h3, h4⟩
 same := fun id hn => by
  rw [get_put', get_put']
  split
  ·exact ho
  ·exact h.same id hn
theorem Sim.put (h : Sim H s s') {b : Nat} (hb : H b = none) (o : AObj) : Sim H (s.put b o) (s'.put b o) := h.put2 hb (.refl _)
theorem Sim.alloc2 (h : Sim H s s') {o o' : AObj} (ho : ObjR (some o) (some o')) : Sim H (s.alloc o) (s'.alloc o') where
 next := by show s.next + 1 = s'.next + 1; rw [h.next]
 ro := h.ro
 roNext := Nat.le_succ_of_le h.roNext
 hid := fun id c hc => by
  obtain ⟨h1, h2, h3, h4⟩ := h.hid id c hc
  have hne : id ≠ s.next := by omega
  exact ⟨by rw [get_alloc', if_neg hne]; exact h1, by rw [get_alloc', if_neg (by rw [← h.next]; exact hne)]; exact h2, Nat.lt_succ_of_lt h3, h4⟩
 same := fun id hn => by
  rw [get_alloc', get_alloc', h.next]
  split
  ·exact ho
  ·exact h.same id hn
theorem Sim.alloc (h : Sim H s s') (o : AObj) : Sim H (s.alloc o) (s'.alloc o) := h.alloc2 (.refl _)
theorem Sim.load1 (h : Sim H s s') {b o : Nat} {v : Value} (k : s'.load1 b o = .ok v) : s.load1 b o = .ok v := by
 unfold St.load1 at k ⊢
 obtain ⟨xs, hx, k⟩ := Res.bind_eq_ok.1 k
 rw [(h.cells hx).1]; exact k
theorem Sim.loadN (h : Sim H s s') {b o n : Nat} {v : List Value} (k : s'.loadN b o n = .ok v) : s.loadN b o n = .ok v := by
 unfold St.loadN at k ⊢
 obtain ⟨xs, hx, k⟩ := Res.bind_eq_ok.1 k
 rw [(h.cells hx).1]; exact k
theorem Sim.storeN (h : Sim H s s') {b o : Nat} {vs : List Value} (k : s'.storeN b o vs = .ok s2) : ∃ t, s.storeN b o vs = .ok t ∧ Sim H t s2 := by
 unfold St.storeN at k ⊢
 obtain ⟨xs, hx, k⟩ := Res.bind_eq_ok.1 k
 obtain ⟨_, h1, k⟩ := Res.bind_eq_ok.1 k
 obtain ⟨_, h2, k⟩ := Res.bind_eq_ok.1 k
 obtain ⟨_, h3, k⟩ := Res.bind_eq_ok.1 k
 cases k
 obtain ⟨hc, hn⟩ := h.cells hx
 rw [← h.ro] at h1
 simp only [hc, Res.bind_ok, h1, h2, h3]
 exact ⟨_, rfl, h.put hn _⟩
theorem Sim.firstL (h : Sim H s s') {c n : Nat} {x : Value} {l : List Value} (k : firstL s' c n x = .ok l) : firstL s c n x = .ok l := by
 unfold AM.firstL at k ⊢
 split at k
 ·obtain ⟨_, h1, k⟩ := Res.bind_eq_ok.1 k
  simp only [h1, Res.bind_ok]
  exact h.loadN k
 ·exact k
 ·exact k
 ·cases k
theorem Sim.aappend (h : Sim H s s') {c bytes : Nat} {x y v : Value} (k : aappend s' c bytes x y = .ok (v, s2)) : ∃ t, aappend s c bytes x y = .ok (v, t) ∧ Sim H t s2 := by
 unfold AM.aappend at k ⊢
 split at k
 ·rename_i base n c'
  obtain ⟨m, h1, k⟩ := Res.bind_eq_ok.1 k
  obtain ⟨new, h2, k⟩ := Res.bind_eq_ok.1 k
  obtain ⟨_, h3, k⟩ := Res.bind_eq_ok.1 k
  simp only [h1, h.firstL h2, h3, Res.bind_ok]
  by_cases hm : m = 0
  ·rw [if_pos hm] at k ⊢
   cases k
   exact ⟨s, rfl, h⟩
  rw [if_neg hm] at k ⊢
  obtain ⟨_, h4, k⟩ := Res.bind_eq_ok.1 k
  obtain ⟨_, h5, k⟩ := Res.bind_eq_ok.1 k
  simp only [h4, h5, Res.bind_ok]
  split at k
  ·obtain ⟨_, h6, k⟩ := Res.bind_eq_ok.1 k
   cases k
   simp only [h6, Res.bind_ok]
   exact ⟨_, by rw [← h.next]; rfl, h.alloc _⟩
  ·rename_i b o _ _ _ _ _
   obtain ⟨_, h6, k⟩ := Res.bind_eq_ok.1 k
   obtain ⟨xs, h7, k⟩ := Res.bind_eq_ok.1 k
   obtain ⟨_, h8, k⟩ := Res.bind_eq_ok.1 k
   obtain ⟨hc, hn⟩ := h.cells h7
   rw [← h.ro] at h8
   simp only [h6, hc, h8, Res.bind_ok]
   by_cases hl : o + (n + m) * c ≤ xs.length
   ·rw [if_pos hl] at k ⊢
    obtain ⟨s3, h9, k⟩ := Res.bind_eq_ok.1 k
    cases k
    obtain ⟨t, ht, hS⟩ := h.storeN h9
    simp only [ht, Res.bind_ok]
    exact ⟨_, rfl, hS⟩
   ·rw [if_neg hl] at k ⊢
    obtain ⟨_, h9, k⟩ := Res.bind_eq_ok.1 k
    cases k
    simp only [h9, Res.bind_ok]
    exact ⟨_, by rw [← h.next]; rfl, (h.put hn _).alloc _⟩
  ·cases k
 ·cases k
theorem Sim.acopy (h : Sim H s s') {c : Nat} {x y v : Value} (k : acopy s' c x y = .ok (v, s2)) : ∃ t, acopy s c x y = .ok (v, t) ∧ Sim H t s2 := by
 unfold AM.acopy at k ⊢
 split at k
 ·obtain ⟨m, h1, k⟩ := Res.bind_eq_ok.1 k
  obtain ⟨new, h2, k⟩ := Res.bind_eq_ok.1 k
  obtain ⟨_, h3, k⟩ := Res.bind_eq_ok.1 k
  simp only [h1, h.firstL h2, h3, Res.bind_ok]
  split at k
  ·cases k
   exact ⟨_, rfl, h⟩
  ·obtain ⟨_, h6, k⟩ := Res.bind_eq_ok.1 k
   obtain ⟨s3, h9, k⟩ := Res.bind_eq_ok.1 k
   cases k
   obtain ⟨t, ht, hS⟩ := h.storeN h9
   simp only [h6, ht, Res.bind_ok]
   exact ⟨_, rfl, hS⟩
  ·cases k
 ·cases k
theorem Sim.aclear (h : Sim H s s') {z : List Value} {x v : Value} (k : aclear s' z x = .ok (v, s2)) : ∃ t, aclear s z x = .ok (v, t) ∧ Sim H t s2 := by
 unfold AM.aclear at k ⊢
 split at k
 ·cases k; exact ⟨_, rfl, h⟩
 ·rename_i b o n c
  by_cases hn : n = 0
  ·rw [if_pos hn] at k ⊢
   cases k; exact ⟨_, rfl, h⟩
  ·rw [if_neg hn] at k ⊢
   obtain ⟨_, h6, k⟩ := Res.bind_eq_ok.1 k
   obtain ⟨s3, h9, k⟩ := Res.bind_eq_ok.1 k
   cases k
   obtain ⟨t, ht, hS⟩ := h.storeN h9
   simp only [h6, ht, Res.bind_ok]
   exact ⟨_, rfl, hS⟩
 ·cases k
theorem Sim.mapOf (h : Sim H s s') {x : Value} {es : List (Value × Value)} (k : mapOf s' x = .ok es) : mapOf s x = .ok es := by
 unfold AM.mapOf at k ⊢
 split at k
 ·exact k
 ·exact (h.map k).1
 ·cases k
theorem Sim.alook (h : Sim H s s') {q : KeyK} {z x k v : Value} {ok : Bool} (hk : alook s' q z ok x k = .ok v) : alook s q z ok x k = .ok v := by
 unfold AM.alook at hk ⊢
 obtain ⟨_, h1, hk⟩ := Res.bind_eq_ok.1 hk
 obtain ⟨es, h2, hk⟩ := Res.bind_eq_ok.1 hk
 simp only [h1, h.mapOf h2, Res.bind_ok]
 exact hk
theorem Sim.amapSet (h : Sim H s s') {q : KeyK} {m k v : Value} (hk : amapSet s' q m k v = .ok s2) : ∃ t, amapSet s q m k v = .ok t ∧ Sim H t s2 := by
 unfold AM.amapSet at hk ⊢
 split at hk
 ·obtain ⟨es, h1, hk⟩ := Res.bind_eq_ok.1 hk
  obtain ⟨_, h2, hk⟩ := Res.bind_eq_ok.1 hk
  obtain ⟨_, h3, hk⟩ := Res.bind_eq_ok.1 hk
  obtain ⟨w, h4, hk⟩ := Res.bind_eq_ok.1 hk
  obtain ⟨hc, hn⟩ := h.map h1
  rw [← h.ro] at h3
  simp only [hc, h2, h3, h4, Res.bind_ok]
  cases w with
  | none => cases hk; exact ⟨_, rfl, h.put hn _⟩
  | some p => cases hk; exact ⟨_, rfl, h.put hn _⟩
 ·cases hk
theorem Sim.adelete (h : Sim H s s') {q : KeyK} {m k : Value} (hk : adelete s' q m k = .ok s2) : ∃ t, adelete s q m k = .ok t ∧ Sim H t s2 := by
 unfold AM.adelete at hk ⊢
 split at hk
 ·obtain ⟨_, h2, hk⟩ := Res.bind_eq_ok.1 hk
  cases hk
  simp only [h2, Res.bind_ok]
  exact ⟨_, rfl, h⟩
 ·obtain ⟨es, h1, hk⟩ := Res.bind_eq_ok.1 hk
  obtain ⟨_, h2, hk⟩ := Res.bind_eq_ok.1 hk
  obtain ⟨_, h3, hk⟩ := Res.bind_eq_ok.1 hk
  obtain ⟨w, h4, hk⟩ := Res.bind_eq_ok.1 hk
  obtain ⟨hc, hn⟩ := h.map h1
  rw [← h.ro] at h3
  simp only [hc, h2, h3, h4, Res.bind_ok]
  cases w with
  | none => cases hk; exact ⟨_, rfl, h.put hn _⟩
  | some p => cases hk; exact ⟨_, rfl, h.put hn _⟩
 ·cases hk
theorem Sim.aslice (h : Sim H s s') {q : SliceK} {x v : Value} {lo hi mx : Option Value} (k : aslice s' q x lo hi mx = .ok v) : aslice s q x lo hi mx = .ok v := by
 unfold AM.aslice at k ⊢
 split at k
 ·exact k
 ·exact k
 ·obtain ⟨_, h1, k⟩ := Res.bind_eq_ok.1 k
  obtain ⟨xs, h2, k⟩ := Res.bind_eq_ok.1 k
  simp only [h1, (h.cells h2).1, Res.bind_ok]
  exact k
 ·obtain ⟨_, h1, k⟩ := Res.bind_eq_ok.1 k
  obtain ⟨xs, h2, k⟩ := Res.bind_eq_ok.1 k
  simp only [h1, (h.cells h2).1, Res.bind_ok]
  exact k
 ·cases k
theorem Sim.aconv (h : Sim H s s') {q : ConvK} {x v : Value} (k : aconv s' q x = .ok (v, s2)) : ∃ t, aconv s q x = .ok (v, t) ∧ Sim H t s2 := by
 unfold AM.aconv at k ⊢
 split at k
 ·cases k; exact ⟨_, rfl, h⟩
 ·cases k; exact ⟨_, rfl, h⟩
 ·obtain ⟨_, h1, k⟩ := Res.bind_eq_ok.1 k
  obtain ⟨l, h2, k⟩ := Res.bind_eq_ok.1 k
  obtain ⟨_, h3, k⟩ := Res.bind_eq_ok.1 k
  obtain ⟨t, h4, k⟩ := Res.bind_eq_ok.1 k
  cases k
  simp only [h1, h.firstL h2, h3, h4, Res.bind_ok]
  exact ⟨_, rfl, h⟩
 ·obtain ⟨_, h1, k⟩ := Res.bind_eq_ok.1 k
  cases k
  simp only [h1, Res.bind_ok]
  exact ⟨_, by rw [← h.next]; rfl, h.alloc _⟩
 ·cases k
variable {ρ : Operand → Value} {v : Value}
theorem run_sim {o : AOp} (h : Sim H s s') (k : o.run s' ρ = .ok (v, s2)) : ∃ t, o.run s ρ = .ok (v, t) ∧ Sim H t s2 := by
 cases o <;> simp only [AOp.run] at k ⊢
 case mv => cases k; exact ⟨_, rfl, h⟩
 case ext g nd xs =>
  obtain ⟨_, h1, k⟩ := Res.bind_eq_ok.1 k
  obtain ⟨v1, h2, k⟩ := Res.bind_eq_ok.1 k; cases k
  have hn : (nd.all fun p => hasVar (s.get p.1) p.2) = true := by
   have := Res.need_eq_ok.1 h1
   rw [List.all_eq_true] at this ⊢
   intro p hp
   have hp := this p hp
   unfold hasVar at hp
   split at hp
   ·rename_i hq he
    rw [(h.get hq (by simp) (by simp)).1, he]
    exact hp
   ·rename_i hq he
    rw [(h.get hq (by simp) (by simp)).1, he]
    rfl
   ·rename_i hq he
    rw [(h.get hq (by simp) (by simp)).1, he]
    exact hp
   ·cases hp
  have h2 : Res.of (g.g (rdOf s) (xs.map ρ)) "ext: arguments" = .ok v := by
   have := Res.of_eq_ok.1 h2
   rw [g.mono (fun b xs hb => ?_) this]
   ·rfl
   ·unfold rdOf at hb ⊢
    split at hb
    ·rename_i hq
     cases hb
     rw [(h.get hq (by simp) (by simp)).1]
    ·cases hb
  simp only [hn, Res.need_true, Res.bind_ok, h2]; exact ⟨_, rfl, h⟩
 case pick => split at k <;> cases k; exact ⟨_, rfl, h⟩
 case new => cases k; exact ⟨_, by rw [h.next], h.alloc _⟩
 case box =>
  obtain ⟨_, h1, k⟩ := Res.bind_eq_ok.1 k; cases k
  simp only [h1, Res.bind_ok]; exact ⟨_, by rw [← h.next]; rfl, h.alloc _⟩
 case build =>
  obtain ⟨_, h1, k⟩ := Res.bind_eq_ok.1 k; cases k
  simp only [h1, Res.bind_ok]; exact ⟨_, rfl, h⟩
 case lit =>
  obtain ⟨_, h1, k⟩ := Res.bind_eq_ok.1 k; cases k
  simp only [h1, Res.bind_ok]; exact ⟨_, by rw [← h.next]; rfl, h.alloc _⟩
 case load n a =>
  obtain ⟨p, h1, k⟩ := Res.bind_eq_ok.1 k
  simp only [h1, Res.bind_ok] at k ⊢
  cases n with
  | none =>
    simp only [] at k ⊢
    obtain ⟨x, h2, k⟩ := Res.bind_eq_ok.1 k; cases k
    simp only [h.load1 h2, Res.bind_ok]; exact ⟨_, rfl, h⟩
  | some n =>
    simp only [] at k ⊢
    obtain ⟨x, h2, k⟩ := Res.bind_eq_ok.1 k; cases k
    simp only [h.loadN h2, Res.bind_ok]; exact ⟨_, rfl, h⟩
 case store =>
  obtain ⟨p, h1, k⟩ := Res.bind_eq_ok.1 k
  simp only [h1, Res.bind_ok] at k ⊢
  obtain ⟨_, h2, k⟩ := Res.bind_eq_ok.1 k
  obtain ⟨_, h3, k⟩ := Res.bind_eq_ok.1 k
  obtain ⟨s3, h4, k⟩ := Res.bind_eq_ok.1 k
  cases k
  obtain ⟨t, ht, hS⟩ := h.storeN h4
  simp only [h2, h3, ht, Res.bind_ok]; exact ⟨_, rfl, hS⟩
 case nilc => split at k <;> cases k <;> exact ⟨_, rfl, h⟩
 case bin =>
  obtain ⟨_, h1, k⟩ := Res.bind_eq_ok.1 k; cases k
  simp only [h1, Res.bind_ok]; exact ⟨_, rfl, h⟩
 case eq =>
  obtain ⟨_, h1, k⟩ := Res.bind_eq_ok.1 k; cases k
  simp only [h1, Res.bind_ok]; exact ⟨_, rfl, h⟩
 case un =>
  obtain ⟨_, h1, k⟩ := Res.bind_eq_ok.1 k; cases k
  simp only [h1, Res.bind_ok]; exact ⟨_, rfl, h⟩
 case conv => exact h.aconv k
 case iface => cases k; exact ⟨_, rfl, h⟩
 case fn => cases k; exact ⟨_, rfl, h⟩
 case newMap => cases k; exact ⟨_, by rw [h.next], h.alloc _⟩
 case mkSlice =>
  split at k
  ·obtain ⟨_, h1, k⟩ := Res.bind_eq_ok.1 k; cases k
   simp only [h1, Res.bind_ok]; exact ⟨_, by rw [← h.next]; rfl, h.alloc _⟩
  ·cases k
 case slice =>
  obtain ⟨_, h1, k⟩ := Res.bind_eq_ok.1 k; cases k
  simp only [h.aslice h1, Res.bind_ok]; exact ⟨_, rfl, h⟩
 case off =>
  obtain ⟨p, h1, k⟩ := Res.bind_eq_ok.1 k; cases k
  simp only [h1, Res.bind_ok]; exact ⟨_, rfl, h⟩
 case field =>
  split at k
  ·obtain ⟨_, h1, k⟩ := Res.bind_eq_ok.1 k; cases k
   simp only [h1, Res.bind_ok]; exact ⟨_, rfl, h⟩
  ·cases k
 case ixA =>
  split at k
  ·obtain ⟨_, h1, k⟩ := Res.bind_eq_ok.1 k
   obtain ⟨_, h2, k⟩ := Res.bind_eq_ok.1 k; cases k
   simp only [h1, h2, Res.bind_ok]; exact ⟨_, rfl, h⟩
  ·obtain ⟨_, h2, k⟩ := Res.bind_eq_ok.1 k; cases k
   simp only [h2, Res.bind_ok]; exact ⟨_, rfl, h⟩
  ·cases k
 case ixS =>
  split at k
  ·obtain ⟨_, h1, k⟩ := Res.bind_eq_ok.1 k
   obtain ⟨_, h2, k⟩ := Res.bind_eq_ok.1 k; cases k
   simp only [h1, h2, Res.bind_ok]; exact ⟨_, rfl, h⟩
  ·cases k
 case ixV =>
  split at k
  ·obtain ⟨_, h1, k⟩ := Res.bind_eq_ok.1 k
   obtain ⟨_, h2, k⟩ := Res.bind_eq_ok.1 k; cases k
   simp only [h1, h2, Res.bind_ok]; exact ⟨_, rfl, h⟩
  ·cases k
 case look =>
  obtain ⟨_, h1, k⟩ := Res.bind_eq_ok.1 k; cases k
  simp only [h.alook h1, Res.bind_ok]; exact ⟨_, rfl, h⟩
 case mapSet =>
  obtain ⟨_, h1, k⟩ := Res.bind_eq_ok.1 k; cases k
  obtain ⟨t, ht, hS⟩ := h.amapSet h1
  simp only [ht, Res.bind_ok]; exact ⟨_, rfl, hS⟩
 case rangeStr =>
  split at k
  ·cases k; exact ⟨_, by rw [← h.next], h.alloc _⟩
  ·cases k
 case nextStr =>
  obtain ⟨p, h1, k⟩ := Res.bind_eq_ok.1 k
  simp only [h1, Res.bind_ok] at k ⊢
  obtain ⟨_, h2, k⟩ := Res.bind_eq_ok.1 k
  simp only [h2, Res.bind_ok] at k ⊢
  split at k
  ·rename_i t pos hg
   obtain ⟨hg1, hn⟩ := h.get hg (by simp) (by simp)
   simp only [hg1]
   by_cases hp : pos < t.size
   ·rw [if_pos hp] at k ⊢
    obtain ⟨_, h3, k⟩ := Res.bind_eq_ok.1 k
    cases k
    rw [← h.ro] at h3
    simp only [h3, Res.bind_ok]; exact ⟨_, rfl, h.put hn _⟩
   ·rw [if_neg hp] at k ⊢
    cases k; exact ⟨_, rfl, h⟩
  ·cases k
 case assert t z ok x =>
  split at k
  ·rename_i u y _
   by_cases hu : u = t
   ·rw [if_pos hu] at k ⊢; cases k; exact ⟨_, rfl, h⟩
   ·rw [if_neg hu] at k ⊢
    cases ok with
    | false => cases k
    | true => cases k; exact ⟨_, rfl, h⟩
  ·cases ok with
   | false => cases k
   | true => cases k; exact ⟨_, rfl, h⟩
  ·cases k
 case extract =>
  split at k
  ·obtain ⟨_, h1, k⟩ := Res.bind_eq_ok.1 k; cases k
   simp only [h1, Res.bind_ok]; exact ⟨_, rfl, h⟩
  ·cases k
 case len =>
  split at k
  ·cases k; exact ⟨_, rfl, h⟩
  ·cases k; exact ⟨_, rfl, h⟩
  ·cases k; exact ⟨_, rfl, h⟩
  ·cases k; exact ⟨_, rfl, h⟩
  ·obtain ⟨_, h1, k⟩ := Res.bind_eq_ok.1 k; cases k
   simp only [(h.map h1).1, Res.bind_ok]; exact ⟨_, rfl, h⟩
  ·cases k
 case append => exact h.aappend k
 case copy => exact h.acopy k
 case clear => exact h.aclear k
 case delete =>
  obtain ⟨_, h1, k⟩ := Res.bind_eq_ok.1 k; cases k
  obtain ⟨t, ht, hS⟩ := h.adelete h1
  simp only [ht, Res.bind_ok]; exact ⟨_, rfl, hS⟩
 case minmax =>
  obtain ⟨_, h1, k⟩ := Res.bind_eq_ok.1 k; cases k
  simp only [h1, Res.bind_ok]; exact ⟨_, rfl, h⟩
 case call => cases k
 case lbox =>
  obtain ⟨_, h1, k⟩ := Res.bind_eq_ok.1 k; cases k
  simp only [h1, Res.bind_ok]; exact ⟨_, rfl, h.alloc _⟩
 case lnew => cases k; exact ⟨_, rfl, h.alloc _⟩
 case lref => split at k <;> cases k; exact ⟨_, rfl, h⟩
 case upd =>
  split at k
  ·obtain ⟨_, h1, k⟩ := Res.bind_eq_ok.1 k
   obtain ⟨_, h2, k⟩ := Res.bind_eq_ok.1 k
   obtain ⟨_, h3, k⟩ := Res.bind_eq_ok.1 k
   obtain ⟨_, h4, k⟩ := Res.bind_eq_ok.1 k
   cases k
   simp only [h1, h2, h3, h4, Res.bind_ok]; exact ⟨_, rfl, h⟩
  ·cases k
end
structure KSim (K K' : Ctx) : Prop where
 go : ∀ {t s s' H v s2'}, K'.go t s' = .ok (v, s2') → Sim H s s' → ∃ s2 H2, K.go t s = .ok (v, s2) ∧ Sim H2 s2 s2' ∧ s.next ≤ s2.next ∧ ∀ id, id < s.next → H2 id = H id
 rounds : ∃ n, K.loop = (fun f => iterC f n) ∧ K'.loop = fun f => iterC f n
section
variable {K K' : Ctx} (hK : KSim K K') {H : Hid} {s s' s2' : St} {v : Value}
include hK
theorem oper_sim {ρ : Operand → Value} {o : AOp} (k : AOper.run K' s' ρ o = .ok (v, s2')) (h : Sim H s s') : ∃ s2 H2, AOper.run K s ρ o = .ok (v, s2) ∧ Sim H2 s2 s2' ∧ s.next ≤ s2.next ∧ ∀ id, id < s.next → H2 id = H id := by
 cases o
 case call f args =>
  simp only [AOper.run] at k ⊢
  obtain ⟨t, h1, k⟩ := Res.bind_eq_ok.1 k
  simp only [h1, Res.bind_ok]
  exact hK.go k h
 all_goals
  unfold AOper.run at k ⊢
  obtain ⟨t, ht, hS⟩ := run_sim h k
  exact ⟨t, H, ht, hS, (run_le ht).next, fun _ _ => rfl⟩
theorem ops_same : ∀ (l : List AOper) {e e2 : Env} {s s' s2' : St} {H : Hid}, opsC K' l e s' = .ok (e2, s2') → Sim H s s' → ∃ s2 H2, opsC K l e s = .ok (e2, s2) ∧ Sim H2 s2 s2' ∧ s.next ≤ s2.next ∧ ∀ id, id < s.next → H2 id = H id := by
 intro l
 induction l with
 | nil => intro e e2 s s' s2' H k h; cases k; exact ⟨s, H, rfl, h, Nat.le_refl _, fun _ _ => rfl⟩
 | cons o l ih =>
   intro e e2 s s' s2' H k h
   simp only [opsC] at k ⊢
   obtain ⟨b, h1, k⟩ := Res.bind_eq_ok.1 k
   simp only [h1, Res.bind_ok]
   cases b with
   | false => exact ih k h
   | true =>
     simp only [if_true] at k ⊢
     obtain ⟨⟨v, s1'⟩, h2, k⟩ := Res.bind_eq_ok.1 k
     obtain ⟨s1, H1, r1, hS, hn, hH⟩ := oper_sim hK h2 h
     simp only [r1, Res.bind_ok]
     obtain ⟨s2, H2, r2, hS2, hn2, hH2⟩ := ih k hS
     exact ⟨s2, H2, r2, hS2, Nat.le_trans hn hn2, fun id hi => (hH2 id (Nat.lt_of_lt_of_le hi hn)).trans (hH id hi)⟩
def SimL : List St → List St → Prop
 | [], [] => True
 | s :: l, s' :: l' => (∃ H, Sim H s s') ∧ SimL l l'
 | _, _ => False
omit hK in
theorem SimL.take : ∀ {l l' : List St} (n : Nat), SimL l l' → SimL (l.take n) (l'.take n)
 | [], [], n, h => by simp [SimL]
 | s :: l, s' :: l', 0, h => by simp [SimL]
 | s :: l, s' :: l', n + 1, h => ⟨h.1, SimL.take n h.2⟩
 | [], _ :: _, _, h => h.elim
 | _ :: _, [], _, h => h.elim
omit hK in
theorem stays_sim {ρ : Operand → Value} {o : AOp} {base : Nat} : ∀ {l l' : List St}, SimL l l' → stays l' base ρ o v = true → stays l base ρ o v = true := by
 intro l l' hl h
 unfold stays at h ⊢
 rw [Bool.or_eq_true] at h ⊢
 rcases h with h | h
 ·exact .inl h
 ·refine .inr ?_
  induction l generalizing l' with
  | nil => rfl
  | cons s l ih =>
    cases l' with
    | nil => exact hl.elim
    | cons s' l' =>
      obtain ⟨⟨H, hS⟩, hl⟩ := hl
      simp only [List.all_cons, Bool.and_eq_true] at h ⊢
      refine ⟨?_, ih hl h.2⟩
      have h := h.1
      split at h
      ·rename_i u s3 hr
       obtain ⟨t, ht, _⟩ := run_sim hS hr
       rw [ht]; exact h
      ·cases h
theorem draw_same : ∀ (l : List DOper) {sn sn' : List St} {base : Nat} {e e2 : Env} {s s' s2' : St} {H : Hid}, drawC K' l sn' base e s' = .ok (e2, s2') → SimL sn sn' → Sim H s s' → ∃ s2 H2, drawC K l sn base e s = .ok (e2, s2) ∧ Sim H2 s2 s2' ∧ s.next ≤ s2.next ∧ ∀ id, id < s.next → H2 id = H id := by
 intro l
 induction l with
 | nil => intro sn sn' base e e2 s s' s2' H k hl h; cases k; exact ⟨s, H, rfl, h, Nat.le_refl _, fun _ _ => rfl⟩
 | cons d l ih =>
   intro sn sn' base e e2 s s' s2' H k hl h
   simp only [drawC] at k ⊢
   obtain ⟨b, h1, k⟩ := Res.bind_eq_ok.1 k
   simp only [h1, Res.bind_ok]
   cases b with
   | false => exact ih k hl h
   | true =>
     simp only [if_true] at k ⊢
     obtain ⟨⟨v, s1'⟩, h2, k⟩ := Res.bind_eq_ok.1 k
     obtain ⟨s1, H1, r1, hS, hn, hH⟩ := oper_sim hK h2 h
     simp only [r1, Res.bind_ok]
     cases hw : d.writes with
     | true =>
       simp only [hw, if_true] at k ⊢
       rw [← hS.next] at k
       obtain ⟨s2, H2, r2, hS2, hn2, hH2⟩ := ih (sn := s :: sn) (sn' := s' :: sn') k ⟨⟨H, h⟩, hl⟩ hS
       exact ⟨s2, H2, r2, hS2, Nat.le_trans hn hn2, fun id hi => (hH2 id (Nat.lt_of_lt_of_le hi hn)).trans (hH id hi)⟩
     | false =>
       simp only [hw] at k ⊢
       obtain ⟨_, h3, k⟩ := Res.bind_eq_ok.1 k
       have h3' : Res.need (d.back = 0 || stays (sn.take d.back) base e.ev d.o.op v) "order" = .ok () := by
        rw [Res.need_eq_ok] at h3 ⊢
        rw [Bool.or_eq_true] at h3 ⊢
        exact h3.imp id (stays_sim (hl.take _))
       simp only [h3', Res.bind_ok]
       obtain ⟨s2, H2, r2, hS2, hn2, hH2⟩ := ih k hl hS
       exact ⟨s2, H2, r2, hS2, Nat.le_trans hn hn2, fun id hi => (hH2 id (Nat.lt_of_lt_of_le hi hn)).trans (hH id hi)⟩
omit hK in
theorem iter_same {f f' : Env → St → Res (AExit × Env × St)} (hf : ∀ {e s s' H x e2 s2'}, f' e s' = .ok (x, e2, s2') → Sim H s s' → ∃ s2 H2, f e s = .ok (x, e2, s2) ∧ Sim H2 s2 s2' ∧ s.next ≤ s2.next ∧ ∀ id, id < s.next → H2 id = H id) :
 ∀ (n : Nat) {e s s' H x e2 s2'}, iterC f' n e s' = .ok (x, e2, s2') → Sim H s s' → ∃ s2 H2, iterC f n e s = .ok (x, e2, s2) ∧ Sim H2 s2 s2' ∧ s.next ≤ s2.next ∧ ∀ id, id < s.next → H2 id = H id := by
 intro n
 induction n with
 | zero => intro e s s' H x e2 s2' k; cases k
 | succ n ih =>
   intro e s s' H x e2 s2' k h
   simp only [iterC] at k ⊢
   obtain ⟨⟨x1, e1, s1'⟩, h1, k⟩ := Res.bind_eq_ok.1 k
   obtain ⟨s1, H1, r1, hS, hn, hH⟩ := hf h1 h
   simp only [r1, Res.bind_ok]
   cases x1 with
   | normal =>
     simp only [] at k ⊢
     obtain ⟨s2, H2, r2, hS2, hn2, hH2⟩ := ih k hS
     exact ⟨s2, H2, r2, hS2, Nat.le_trans hn hn2, fun id hi => (hH2 id (Nat.lt_of_lt_of_le hi hn)).trans (hH id hi)⟩
   | exit j => cases k; exact ⟨s1, H1, rfl, hS, hn, hH⟩
   | ret => cases k; exact ⟨s1, H1, rfl, hS, hn, hH⟩
theorem code_same : ∀ (c : ACode) {e : Env} {s s' : St} {H : Hid} {x : AExit} {e2 : Env} {s2' : St}, codeC K' c e s' = .ok (x, e2, s2') → Sim H s s' → ∃ s2 H2, codeC K c e s = .ok (x, e2, s2) ∧ Sim H2 s2 s2' ∧ s.next ≤ s2.next ∧ ∀ id, id < s.next → H2 id = H id := by
 intro c
 induction c with
 | skip => intro e s s' H x e2 s2' k h; cases k; exact ⟨s, H, rfl, h, Nat.le_refl _, fun _ _ => rfl⟩
 | ops l =>
   intro e s s' H x e2 s2' k h
   simp only [codeC] at k ⊢
   obtain ⟨⟨e1, s1'⟩, h1, k⟩ := Res.bind_eq_ok.1 k
   cases k
   obtain ⟨s1, H1, r1, hS⟩ := ops_same hK l h1 h
   simp only [r1, Res.bind_ok]
   exact ⟨s1, H1, rfl, hS⟩
 | draw l =>
   intro e s s' H x e2 s2' k h
   simp only [codeC] at k ⊢
   obtain ⟨⟨e1, s1'⟩, h1, k⟩ := Res.bind_eq_ok.1 k
   cases k
   rw [← h.next] at h1
   obtain ⟨s1, H1, r1, hS⟩ := draw_same hK l (sn := []) h1 (by trivial) h
   simp only [r1, Res.bind_ok]
   exact ⟨s1, H1, rfl, hS⟩
 | seq a b iha ihb =>
   intro e s s' H x e2 s2' k h
   simp only [codeC] at k ⊢
   obtain ⟨⟨x1, e1, s1'⟩, h1, k⟩ := Res.bind_eq_ok.1 k
   obtain ⟨s1, H1, r1, hS, hn, hH⟩ := iha h1 h
   simp only [r1, Res.bind_ok]
   cases x1 with
   | normal =>
     simp only [] at k ⊢
     obtain ⟨s2, H2, r2, hS2, hn2, hH2⟩ := ihb k hS
     exact ⟨s2, H2, r2, hS2, Nat.le_trans hn hn2, fun id hi => (hH2 id (Nat.lt_of_lt_of_le hi hn)).trans (hH id hi)⟩
   | exit j => cases k; exact ⟨s1, H1, rfl, hS, hn, hH⟩
   | ret => cases k; exact ⟨s1, H1, rfl, hS, hn, hH⟩
 | cond c a b iha ihb =>
   intro e s s' H x e2 s2' k h
   simp only [codeC] at k ⊢
   split at k
   ·exact iha k h
   ·exact ihb k h
   ·cases k
 | block i b ih =>
   intro e s s' H x e2 s2' k h
   simp only [codeC] at k ⊢
   obtain ⟨⟨x1, e1, s1'⟩, h1, k⟩ := Res.bind_eq_ok.1 k
   obtain ⟨s1, H1, r1, hS, hn, hH⟩ := ih h1 h
   simp only [r1, Res.bind_ok]
   cases x1 with
   | normal => cases k; exact ⟨s1, H1, rfl, hS, hn, hH⟩
   | exit j => cases k; exact ⟨s1, H1, rfl, hS, hn, hH⟩
   | ret => cases k; exact ⟨s1, H1, rfl, hS, hn, hH⟩
 | loop b ih =>
   intro e s s' H x e2 s2' k h
   obtain ⟨n, hn, hn'⟩ := hK.rounds
   simp only [codeC, hn, hn'] at k ⊢
   exact iter_same (f := codeC K b) (f' := codeC K' b) (fun k h => ih k h) n k h
 | range f ps assign body _ _ =>
   intro e s s' H x e2 s2' k h
   simp only [codeC] at k ⊢
   obtain ⟨t, h1, k⟩ := Res.bind_eq_ok.1 k
   obtain ⟨_, h2, k⟩ := Res.bind_eq_ok.1 k
   obtain ⟨⟨v, s1'⟩, h3, k⟩ := Res.bind_eq_ok.1 k
   obtain ⟨s1, H1, r1, hS, hn, hH⟩ := hK.go h3 (h.alloc (.loop e ps assign body .ready .normal))
   rw [← h.next] at h1
   simp only [h1, h2, r1, Res.bind_ok]
   simp only [] at k
   split at k
   ·rename_i e5 ps5 as5 bd5 state pend hg
    obtain ⟨_, _, _, hg1, hnn, _⟩ := hS.getLoop hg
    obtain ⟨_, h4, k⟩ := Res.bind_eq_ok.1 k
    cases k
    rw [← h.next] at hg1
    rw [hg1]
    simp only [h4, Res.bind_ok]
    have hn : s.next + 1 ≤ s1.next := hn
    refine ⟨_, H1, rfl, ?_, by show s.next ≤ s1.next; omega, fun id hi => hH id (Nat.lt_succ_of_lt hi)⟩
    rw [h.next]
    exact hS.put hnn _
   ·cases k
 | exit i => intro e s s' H x e2 s2' k h; cases k; exact ⟨s, H, rfl, h, Nat.le_refl _, fun _ _ => rfl⟩
 | ret => intro e s s' H x e2 s2' k h; cases k; exact ⟨s, H, rfl, h, Nat.le_refl _, fun _ _ => rfl⟩
 | keep l => intro e s s' H x e2 s2' k h; cases k; exact ⟨s, H, rfl, h, Nat.le_refl _, fun _ _ => rfl⟩
omit hK in
theorem results_same {e : Env} (h : Sim H s s') : ∀ (rs : List ARes) {vs : List Value}, resultsC e s' rs = .ok vs → resultsC e s rs = .ok vs := by
 intro rs
 induction rs with
 | nil => intro vs k; exact k
 | cons r rs ih =>
   intro vs k
   cases r with
   | tmp t =>
     simp only [resultsC] at k ⊢
     obtain ⟨l, h1, k⟩ := Res.bind_eq_ok.1 k
     simp only [ih h1, Res.bind_ok]; exact k
   | cell t n =>
     simp only [resultsC] at k ⊢
     obtain ⟨⟨v, s1⟩, h0, k⟩ := Res.bind_eq_ok.1 k
     obtain ⟨l, h1, k⟩ := Res.bind_eq_ok.1 k
     obtain ⟨t, ht, _⟩ := run_sim h h0
     simp only [ht, ih h1, Res.bind_ok]; exact k
   | part t n =>
     simp only [resultsC] at k ⊢
     obtain ⟨⟨v, s1⟩, h0, k⟩ := Res.bind_eq_ok.1 k
     obtain ⟨l, h1, k⟩ := Res.bind_eq_ok.1 k
     obtain ⟨t, ht, _⟩ := run_sim h h0
     simp only [ht, ih h1, Res.bind_ok]; exact k
end
end Go.AM
set_option linter.unusedVariables false
set_option linter.unusedSimpArgs false
namespace Go.AM
theorem ev_congr {e e' : Env} {x : Operand} (h : ∀ t ∈ opdT x, e.at t = e'.at t) : e.ev x = e'.ev x := by
 cases x with
 | tmp t => exact h t (by simp [opdT])
 | const v => rfl
 | global g => rfl
 | func f => rfl
theorem evL_congr {e e' : Env} {l : List Operand} (h : ∀ t ∈ opdL l, e.at t = e'.at t) : l.map e.ev = l.map e'.ev :=
 List.map_congr_left fun x hx => ev_congr fun t ht => h t (List.mem_flatMap.2 ⟨x, hx, ht⟩)
theorem evO_congr {e e' : Env} {x : Option Operand} (h : ∀ t ∈ opdO x, e.at t = e'.at t) : x.map e.ev = x.map e'.ev := by
 cases x with
 | none => rfl
 | some x => simp only [Option.map_some]; rw [ev_congr h]
theorem evP_congr {e e' : Env} {l : List (Nat × Nat × Operand)} (h : ∀ t ∈ opdL (l.map (·.2.2)), e.at t = e'.at t) : (l.map fun (o, n, x) => (o, n, e.ev x)) = l.map fun (o, n, x) => (o, n, e'.ev x) :=
 List.map_congr_left fun p hp => by
  obtain ⟨o, n, x⟩ := p
  show (o, n, e.ev x) = (o, n, e'.ev x)
  rw [ev_congr fun t ht => h t (List.mem_flatMap.2 ⟨x, List.mem_map.2 ⟨_, hp, rfl⟩, ht⟩)]
theorem run_congr {e e' : Env} {o : AOp} (h : ∀ t ∈ o.reads, e.at t = e'.at t) (st : St) : o.run st e.ev = o.run st e'.ev := by
 cases o
 case mv x | box x | nilc x | un _ x | conv _ x | iface _ x | off _ x | field _ _ x | rangeStr x | nextStr x | assert _ _ _ x | extract x _ | len _ x | clear _ x | load _ x | lbox x | lref x =>
  have hx := ev_congr (x := x) h
  simp only [AOp.run, hx]
 case pick c a b =>
  have h1 := ev_congr (x := c) fun t ht => h t (by simp [AOp.reads, opdL, ht])
  have h2 := ev_congr (x := a) fun t ht => h t (by simp [AOp.reads, opdL, ht])
  have h3 := ev_congr (x := b) fun t ht => h t (by simp [AOp.reads, opdL, ht])
  simp only [AOp.run, h1, h2, h3]
 case new | newMap | lnew => rfl
 case build z ps => simp only [AOp.run]; rw [evP_congr h]
 case lit s n z ps => simp only [AOp.run]; rw [evP_congr h]
 case store n x y | bin _ x y | eq _ _ x y | append _ _ x y | copy _ x y | ixA _ _ x y | ixS x y | ixV _ _ _ x y | look _ _ _ x y | delete _ x y | mkSlice _ _ _ x y | upd _ _ x y =>
  have h1 := ev_congr (x := x) fun t ht => h t (by simp [AOp.reads, opdL, ht])
  have h2 := ev_congr (x := y) fun t ht => h t (by simp [AOp.reads, opdL, ht])
  simp only [AOp.run, h1, h2]
 case fn f a b =>
  have h1 := evL_congr (l := a) fun t ht => h t (by simp only [AOp.reads, opdL, List.flatMap_append, List.mem_append]; exact .inl ht)
  have h2 := evL_congr (l := b) fun t ht => h t (by simp only [AOp.reads, opdL, List.flatMap_append, List.mem_append]; exact .inr ht)
  simp only [AOp.run, h1, h2]
 case slice k x lo hi mx =>
  have h1 := ev_congr (x := x) fun t ht => h t (by simp [AOp.reads, ht])
  have h2 := evO_congr (x := lo) fun t ht => h t (by simp [AOp.reads, ht])
  have h3 := evO_congr (x := hi) fun t ht => h t (by simp [AOp.reads, ht])
  have h4 := evO_congr (x := mx) fun t ht => h t (by simp [AOp.reads, ht])
  simp only [AOp.run, h1, h2, h3, h4]
 case mapSet q a b c =>
  have h1 := ev_congr (x := a) fun t ht => h t (by simp [AOp.reads, opdL, ht])
  have h2 := ev_congr (x := b) fun t ht => h t (by simp [AOp.reads, opdL, ht])
  have h3 := ev_congr (x := c) fun t ht => h t (by simp [AOp.reads, opdL, ht])
  simp only [AOp.run, h1, h2, h3]
 case minmax m x ys =>
  have h1 := ev_congr (x := x) fun t ht => h t (by simp [AOp.reads, opdL, ht])
  have h2 := evL_congr (l := ys) fun t ht => h t (by simp only [AOp.reads, opdL, List.flatMap_cons, List.mem_append]; exact .inr ht)
  simp only [AOp.run, h1, h2]
 case call => rfl
 case ext g nd xs =>
  have h2 := evL_congr (l := xs) fun t ht => h t ht
  simp only [AOp.run, h2]
theorem oper_congr {K : Ctx} {e e' : Env} {o : AOp} (h : ∀ t ∈ o.reads, e.at t = e'.at t) (st : St) : AOper.run K st e.ev o = AOper.run K st e'.ev o := by
 cases o
 case call f args =>
  have h1 := ev_congr (x := f) fun t ht => h t (by simp [AOp.reads, opdL, ht])
  have h2 := evL_congr (l := args) fun t ht => h t (by simp only [AOp.reads, opdL, List.flatMap_cons, List.mem_append]; exact .inr ht)
  simp only [AOper.run, h1, h2]
 all_goals exact run_congr h st
theorem looks_congr {e e' : Env} {o : AOp} (h : ∀ t ∈ o.reads, e.at t = e'.at t) : o.looks e.ev = o.looks e'.ev := by
 unfold AOp.looks
 cases o <;> try rfl
 case load n a => simp only [AOp.lookAt, Option.bind_some]; rw [ev_congr (x := a) h]
 case look _ _ _ x y => simp only [AOp.lookAt, Option.bind_some]; rw [ev_congr (x := x) fun t ht => h t (by simp [AOp.reads, opdL, ht])]
 case len k x =>
  cases k <;> try rfl
  simp only [AOp.lookAt, Option.bind_some]; rw [ev_congr (x := x) h]
 case slice _ x _ _ _ => simp only [AOp.lookAt, Option.bind_some]; rw [ev_congr (x := x) fun t ht => h t (by simp [AOp.reads, ht])]
 case conv k x =>
  cases k <;> try rfl
  simp only [AOp.lookAt, Option.bind_some]; rw [ev_congr (x := x) h]
theorem put_at (e : Env) (t : Tmp) (v : Value) (u : Tmp) : (e.put (some t) v).at u = if u = t then v else e.at u := by
 by_cases h : u = t
 ·subst h; simp [Env.put]
 ·rw [if_neg h]; exact Env.at_set_ne e v h
structure EnvH (h : Hint) (base : Nat) (H : Hid) (e e' : Env) : Prop where
 eq : ∀ t, h.spec t = false → e.at t = e'.at t
 box : ∀ d cs, inL d h.boxes = true → e'.at d = .agg cs → ∃ b, e.at d = .pointer (some ⟨b, 0, none⟩) ∧ H b = some cs.toList ∧ base ≤ b
 inj : ∀ d d' cs cs' b, inL d h.boxes = true → inL d' h.boxes = true → e'.at d = .agg cs → e'.at d' = .agg cs' → e.at d = .pointer (some ⟨b, 0, none⟩) → e.at d' = .pointer (some ⟨b, 0, none⟩) → d = d'
 blank : ∀ d cs, h.deep d = true → inL d h.boxes = false → e'.at d ≠ .agg cs
def AlOk (h : Hint) (al : List Al) (e e' : Env) : Prop := ∀ x ∈ al, inL x.d h.boxes = true ∧ inL x.a h.refs = true ∧ inL x.a h.boxes = false ∧ h.freeG x.g = true ∧
 (wants e' x.g = .ok true → ∃ b cs, e.at x.d = .pointer (some ⟨b, 0, none⟩) ∧ e'.at x.d = .agg cs ∧ e.at x.a = .pointer (some ⟨b, x.k, none⟩))
section
variable {h : Hint} {base : Nat} {H H2 : Hid} {e e' : Env} {al : List Al}
theorem spec_box {d : Tmp} (hd : inL d h.boxes = true) : h.spec d = true := by simp [Hint.spec, hd]
theorem spec_ref {d : Tmp} (hd : inL d h.refs = true) : h.spec d = true := by simp [Hint.spec, hd]
theorem spec_deep {d : Tmp} (hd : h.deep d = true) : h.spec d = true := by simp [Hint.spec, hd]
theorem EnvH.put (hR : EnvH h base H e e') {t : Tmp} {v v' : Value} (h1 : h.spec t = false → v = v')
 (h2 : inL t h.boxes = true → ∀ cs, v' = .agg cs → ∃ b, v = .pointer (some ⟨b, 0, none⟩) ∧ H b = some cs.toList ∧ base ≤ b ∧ ∀ d cs', inL d h.boxes = true → d ≠ t → e'.at d = .agg cs' → e.at d ≠ .pointer (some ⟨b, 0, none⟩))
 (h3 : h.deep t = true → inL t h.boxes = false → ∀ cs, v' ≠ .agg cs) : EnvH h base H (e.put (some t) v) (e'.put (some t) v') where
 eq := fun u hu => by
  rw [put_at, put_at]
  by_cases hut : u = t
  ·subst hut; rw [if_pos rfl, if_pos rfl]; exact h1 hu
  ·rw [if_neg hut, if_neg hut]; exact hR.eq u hu
 box := fun d cs hd hc => by
  rw [put_at] at hc ⊢
  by_cases hdt : d = t
  ·subst hdt; rw [if_pos rfl] at hc ⊢
   obtain ⟨b, k1, k2, k3, _⟩ := h2 hd cs hc
   exact ⟨b, k1, k2, k3⟩
  ·rw [if_neg hdt] at hc ⊢; exact hR.box d cs hd hc
 inj := fun d d' cs cs' b hd hd' hc hc' hp hp' => by
  rw [put_at] at hc hc' hp hp'
  by_cases hdt : d = t
  ·by_cases hdt' : d' = t
   ·rw [hdt, hdt']
   ·subst hdt
    rw [if_pos rfl] at hc hp
    rw [if_neg hdt'] at hc' hp'
    obtain ⟨b0, k1, _, _, k4⟩ := h2 hd cs hc
    rw [k1] at hp
    cases hp
    exact absurd hp' (k4 d' cs' hd' hdt' hc')
  ·by_cases hdt' : d' = t
   ·subst hdt'
    rw [if_pos rfl] at hc' hp'
    rw [if_neg hdt] at hc hp
    obtain ⟨b0, k1, _, _, k4⟩ := h2 hd' cs' hc'
    rw [k1] at hp'
    cases hp'
    exact absurd hp (k4 d cs hd hdt hc)
   ·rw [if_neg hdt] at hc hp
    rw [if_neg hdt'] at hc' hp'
    exact hR.inj d d' cs cs' b hd hd' hc hc' hp hp'
 blank := fun d cs hd hb => by
  rw [put_at]
  split
  ·rename_i hdt; subst hdt; exact h3 hd hb cs
  ·exact hR.blank d cs hd hb
theorem EnvH.hid (hR : EnvH h base H e e') (hH : ∀ d cs b, inL d h.boxes = true → e'.at d = .agg cs → e.at d = .pointer (some ⟨b, 0, none⟩) → H2 b = H b) : EnvH h base H2 e e' where
 eq := hR.eq
 box := fun d cs hd hc => by
  obtain ⟨b, k1, k2, k3⟩ := hR.box d cs hd hc
  exact ⟨b, k1, by rw [hH d cs b hd hc k1]; exact k2, k3⟩
 inj := hR.inj
 blank := hR.blank
theorem wants_congr {e e' : Env} {g : Option (Tmp × Bool)} (h1 : ∀ t b, g = some (t, b) → e.at t = e'.at t) : wants e g = wants e' g := by
 cases g with
 | none => rfl
 | some p => obtain ⟨t, b⟩ := p; simp only [wants, h1 t b rfl]
theorem EnvH.wants (hR : EnvH h base H e e') {g : Option (Tmp × Bool)} (hg : h.freeG g = true) : AM.wants e g = AM.wants e' g :=
 wants_congr fun t b hb => by subst hb; exact hR.eq t (by simpa [Hint.freeG] using hg)
theorem AlOk.put (hA : AlOk h al e e') (t : Tmp) (v v' : Value) : AlOk h (kill t al) (e.put (some t) v) (e'.put (some t) v') := by
 intro x hx
 obtain ⟨hx, hk⟩ := List.mem_filter.1 hx
 obtain ⟨h1, h2, h3, h4, h5⟩ := hA x hx
 simp only [Al.hit, Bool.not_eq_true', Bool.or_eq_false_iff] at hk
 have ha : x.a ≠ t := fun e => by rw [e, Nat.beq_refl] at hk; exact absurd hk.1.1 (by simp)
 have hd : x.d ≠ t := fun e => by rw [e, Nat.beq_refl] at hk; exact absurd hk.1.2 (by simp)
 refine ⟨h1, h2, h3, h4, fun hw => ?_⟩
 rw [wants_congr (e' := e') (fun u b hb => by
  rw [put_at, if_neg]
  intro e
  have := hk.2
  rw [hb, e] at this
  simp at this)] at hw
 obtain ⟨b, cs, k1, k2, k3⟩ := h5 hw
 exact ⟨b, cs, by rw [put_at, if_neg hd]; exact k1, by rw [put_at, if_neg hd]; exact k2, by rw [put_at, if_neg ha]; exact k3⟩
theorem sameG_wants {g g' : Option (Tmp × Bool)} (h : sameG g g' = true) (hw : wants e' g' = .ok true) : wants e' g = .ok true := by
 cases g with
 | none => rfl
 | some p =>
   cases g' with
   | none => obtain ⟨t, b⟩ := p; cases h
   | some q =>
     obtain ⟨t, b⟩ := p
     obtain ⟨u, c⟩ := q
     simp only [sameG, Bool.and_eq_true, beq_iff_eq] at h
     rw [Nat.eq_of_beq_eq_true h.1, h.2]; exact hw
theorem find_ok (hR : EnvH h base H e e') (hA : AlOk h al e e') {g : Option (Tmp × Bool)} (hw : wants e' g = .ok true) {t d : Tmp} {k : Nat} (hf : findAl h al g t = some (d, k)) {cs : Array Value} (hc : e'.at d = .agg cs) :
 inL d h.boxes = true ∧ ∃ b, e.at d = .pointer (some ⟨b, 0, none⟩) ∧ e.at t = .pointer (some ⟨b, k, none⟩) ∧ H b = some cs.toList ∧ base ≤ b := by
 unfold findAl at hf
 split at hf
 ·rename_i hd
  cases hf
  obtain ⟨b, k1, k2, k3⟩ := hR.box _ cs hd hc
  exact ⟨hd, b, k1, k1, k2, k3⟩
 ·split at hf
  ·rename_i x hx
   split at hf
   ·rename_i hs
    cases hf
    obtain ⟨hd, _, _, _, h5⟩ := hA x (List.mem_of_find?_eq_some hx)
    obtain ⟨b, cs', k1, k2, k3⟩ := h5 (sameG_wants hs hw)
    obtain ⟨b', j1, j2, j3⟩ := hR.box _ cs hd hc
    rw [k1] at j1
    cases j1
    have := List.find?_some hx
    rw [← Nat.eq_of_beq_eq_true this]
    exact ⟨hd, b, k1, k3, j2, j3⟩
   ·cases hf
  ·cases hf
theorem free_eq (hR : EnvH h base H e e') {l : List Tmp} (hl : h.free l = true) : ∀ t ∈ l, e.at t = e'.at t := fun t ht =>
 hR.eq t (by simpa using List.all_eq_true.1 hl t ht)
end
theorem load_hid {H : Hid} {s s' : St} (hS : Sim H s s') {e : Env} {t : Tmp} {b k : Nat} {cs : Array Value} {m : Option Nat} {v : Value} (ht : e.at t = .pointer (some ⟨b, k, none⟩)) (hb : H b = some cs.toList) (hp : part m cs.toList k = .ok v) :
 (AOp.load m (.tmp t)).run s e.ev = .ok (v, s) := by
 obtain ⟨h1, _, _, _⟩ := hS.hid b _ hb
 have hc : s.cells b = .ok cs.toList := by simp [St.cells, h1]
 have he : e.ev (.tmp t) = .pointer (some ⟨b, k, none⟩) := ht
 cases m with
 | none =>
   simp only [part] at hp
   simp only [AOp.run, he, asPtr, Res.bind_ok, St.load1, hc, Res.of_eq_ok.1 hp, Res.of_some]
   rfl
 | some n =>
   simp only [part] at hp
   obtain ⟨_, h2, hp⟩ := Res.bind_eq_ok.1 hp
   cases hp
   simp only [AOp.run, he, asPtr, Res.bind_ok, St.loadN, hc]
   have : Res.need (decide (k + n ≤ cs.toList.length)) "cells: too far" = .ok () := by
    rw [Res.need_eq_ok] at h2 ⊢; exact h2
   rw [this]
   rfl
def Hid.set (H : Hid) (b : Nat) (c : List Value) : Hid := fun id => if id = b then some c else H id
theorem Sim.hide {H : Hid} {s s' : St} (h : Sim H s s') (c : List Value) : Sim (H.set s.next c) (s.alloc (.cells c)) (s'.alloc .dead) where
 next := by show s.next + 1 = s'.next + 1; rw [h.next]
 ro := h.ro
 roNext := Nat.le_succ_of_le h.roNext
 hid := fun id c' hc => by
  unfold Hid.set at hc
  by_cases hi : id = s.next
  ·rw [if_pos hi] at hc
   cases hc
   subst hi
   exact ⟨by rw [get_alloc', if_pos rfl], by rw [get_alloc', if_pos h.next], Nat.lt_succ_self _, h.roNext⟩
  ·rw [if_neg hi] at hc
   obtain ⟨h1, h2, h3, h4⟩ := h.hid id c' hc
   exact ⟨by rw [get_alloc', if_neg hi]; exact h1, by rw [get_alloc', if_neg (by rw [← h.next]; exact hi)]; exact h2, Nat.lt_succ_of_lt h3, h4⟩
 same := fun id hn => by
  unfold Hid.set at hn
  by_cases hi : id = s.next
  ·rw [if_pos hi] at hn; cases hn
  ·rw [if_neg hi] at hn
   rw [get_alloc', get_alloc', if_neg hi, if_neg (by rw [← h.next]; exact hi)]
   exact h.same id hn
theorem Sim.change {H : Hid} {s s' : St} (h : Sim H s s') {b : Nat} {c0 : List Value} (hb : H b = some c0) (c : List Value) : Sim (H.set b c) (s.put b (.cells c)) s' where
 next := h.next
 ro := h.ro
 roNext := h.roNext
 hid := fun id c' hc => by
  unfold Hid.set at hc
  by_cases hi : id = b
  ·rw [if_pos hi] at hc
   cases hc
   subst hi
   obtain ⟨h1, h2, h3, h4⟩ := h.hid id _ hb
   exact ⟨by rw [get_put', if_pos rfl], h2, h3, h4⟩
  ·rw [if_neg hi] at hc
   obtain ⟨h1, h2, h3, h4⟩ := h.hid id c' hc
   exact ⟨by rw [get_put', if_neg hi]; exact h1, h2, h3, h4⟩
 same := fun id hn => by
  unfold Hid.set at hn
  by_cases hi : id = b
  ·rw [if_pos hi] at hn; cases hn
  ·rw [if_neg hi] at hn
   rw [get_put', if_neg hi]
   exact h.same id hn
structure OpSim (h : Hint) (base : Nat) (K : Ctx) (H : Hid) (e e' : Env) (s s2' : St) (kd : TKind) (o o' : AOp) (dst dst' : Option Tmp) (al' : List Al) (v' : Value) where
 v : Value
 s2 : St
 H2 : Hid
 run : AOper.run K s e.ev o = .ok (v, s2)
 sim : Sim H2 s2 s2'
 next : s.next ≤ s2.next
 env : EnvH h base H2 (e.put dst v) (e'.put dst' v')
 al : AlOk h al' (e.put dst v) (e'.put dst' v')
 frame : ∀ id, id < base → H2 id = H id
 others : ∀ d, inL d h.boxes = true → d ∉ kd.tch → (e.put dst v).at d = e.at d ∧ (e'.put dst' v').at d = e'.at d ∧ ∀ cs b, e'.at d = .agg cs → e.at d = .pointer (some ⟨b, 0, none⟩) → H2 b = H b
 gen : kd = .gen → o' = o ∧ v' = v ∧ h.free o.reads = true
 ld : ∀ d, kd = .ld d → inL d h.boxes = true ∧ v' = v ∧ ∃ m k t b cs, o = .load m (.tmp t) ∧ o' = .field m k (.tmp d) ∧ e.at t = .pointer (some ⟨b, k, none⟩) ∧ e.at d = .pointer (some ⟨b, 0, none⟩) ∧ e'.at d = .agg cs ∧ H b = some cs.toList ∧ part m cs.toList k = .ok v
section
variable {K K' : Ctx} (hK : KSim K K') {h : Hint} {base : Nat} {H : Hid} {e e' : Env} {al al' : List Al} {s s' s2' : St} {v' : Value} {g : Option (Tmp × Bool)} {dst dst' : Option Tmp} {o o' : AOp} {kd : TKind}
include hK
theorem gen_sim (hR : EnvH h base H e e') (hA : AlOk h al e e') (ht : trGen h al dst o = some (kd, o', dst', al')) (hr : AOper.run K' s' e'.ev o' = .ok (v', s2')) (hS : Sim H s s') (hb : base ≤ s.next) :
 Nonempty (OpSim h base K H e e' s s2' kd o o' dst dst' al' v') := by
 unfold trGen at ht
 split at ht
 ·rename_i hc
  cases ht
  rw [Bool.and_eq_true] at hc
  have hfr := free_eq hR hc.1
  obtain ⟨s2, H2, r2, hS2, hn2, hH2⟩ := oper_sim hK hr hS
  rw [← oper_congr hfr] at r2
  have hbH : ∀ d cs b, inL d h.boxes = true → e'.at d = .agg cs → e.at d = .pointer (some ⟨b, 0, none⟩) → H2 b = H b := fun d cs b hd hc hp => by
   obtain ⟨b', k1, k2, _⟩ := hR.box d cs hd hc
   rw [hp] at k1; cases k1
   exact hH2 b (hS.hid b _ k2).2.2.1
  refine ⟨⟨v', s2, H2, r2, hS2, hn2, ?_, ?_, fun id hi => hH2 id (Nat.lt_of_lt_of_le hi hb), ?_, fun _ => ⟨rfl, rfl, hc.1⟩, fun d hd => by cases hd⟩⟩
  ·cases dst with
   | none => exact hR.hid hbH
   | some t =>
     have ht : h.spec t = false := by simpa [Hint.freeD] using hc.2
     exact (hR.hid hbH).put (fun _ => rfl) (fun hx => by rw [spec_box hx] at ht; cases ht) (fun hx => by rw [spec_deep hx] at ht; cases ht)
  ·cases dst with
   | none => exact hA
   | some t => exact hA.put t v' v'
  ·intro d hd _
   refine ⟨?_, ?_, fun cs b => hbH d cs b hd⟩
   ·cases dst with
    | none => rfl
    | some t =>
      have ht : h.spec t = false := by simpa [Hint.freeD] using hc.2
      rw [put_at, if_neg (fun (e : d = t) => by rw [← e, spec_box hd] at ht; cases ht)]
   ·cases dst with
    | none => rfl
    | some t =>
      have ht : h.spec t = false := by simpa [Hint.freeD] using hc.2
      rw [put_at, if_neg (fun (e : d = t) => by rw [← e, spec_box hd] at ht; cases ht)]
 ·cases ht
omit hK in
theorem box_env (hR : EnvH h base H e e') (hS : Sim H s s') (hb : base ≤ s.next) {d : Tmp} (hd : inL d h.boxes = true) (cs : Array Value) :
 EnvH h base (H.set s.next cs.toList) (e.put (some d) (.pointer (some ⟨s.next, 0, none⟩))) (e'.put (some d) (.agg cs)) := by
 have hne : ∀ d cs b, inL d h.boxes = true → e'.at d = .agg cs → e.at d = .pointer (some ⟨b, 0, none⟩) → b ≠ s.next := fun d cs b hd hc hp => by
  obtain ⟨b', k1, k2, _⟩ := hR.box d cs hd hc
  rw [hp] at k1; cases k1
  exact Nat.ne_of_lt (hS.hid b _ k2).2.2.1
 refine (hR.hid fun d cs b hd hc hp => if_neg (hne d cs b hd hc hp)).put (fun hsp => by rw [spec_box hd] at hsp; cases hsp) (fun _ cs' hc' => ?_) (fun _ hx => by rw [hd] at hx; cases hx)
 cases hc'
 exact ⟨s.next, rfl, if_pos rfl, hb, fun d' cs' hd' _ hc' hp => hne d' cs' _ hd' hc' hp rfl⟩
theorem trOp_sim (hR : EnvH h base H e e') (hA : AlOk h al e e') (hw : wants e' g = .ok true) (hg : h.freeG g = true) (ht : trOp h al g dst o = some (kd, o', dst', al')) (hr : AOper.run K' s' e'.ev o' = .ok (v', s2')) (hS : Sim H s s') (hb : base ≤ s.next) :
 Nonempty (OpSim h base K H e e' s s2' kd o o' dst dst' al' v') := by
 unfold trOp at ht
 split at ht
 ·
  rename_i x d
  split at ht
  ·rename_i hd
   split at ht
   ·rename_i hf
    cases ht
    have hx := ev_congr (free_eq hR hf)
    simp only [AOper.run, AOp.run] at hr
    obtain ⟨_, h1, hr⟩ := Res.bind_eq_ok.1 hr
    cases hr
    rw [← hx] at h1 ⊢
    refine ⟨⟨_, _, _, by simp only [AOper.run, AOp.run, h1, Res.bind_ok]; rfl, hS.hide _, Nat.le_succ _, box_env hR hS hb hd _, hA.put _ _ _, fun id hi => if_neg (by omega), fun d' hd' hn => ?_, fun hk => (by cases hk), fun d hd => (by cases hd)⟩⟩
    have hne : d' ≠ d := fun e => hn (by simp [TKind.tch, e])
    refine ⟨by rw [put_at, if_neg hne], by rw [put_at, if_neg hne], fun cs b hc hp => ?_⟩
    obtain ⟨b', k1, k2, _⟩ := hR.box d' cs hd' hc
    rw [hp] at k1; cases k1
    exact if_neg (Nat.ne_of_lt (hS.hid b _ k2).2.2.1)
   ·cases ht
  ·exact gen_sim hK hR hA ht hr hS hb
 ·
  rename_i z d
  split at ht
  ·rename_i hd
   cases ht
   simp only [AOper.run, AOp.run] at hr
   cases hr
   refine ⟨⟨_, _, H.set s.next z, by simp only [AOper.run, AOp.run]; rfl, hS.hide _, Nat.le_succ _, by simpa using box_env hR hS hb hd z.toArray, hA.put _ _ _, fun id hi => if_neg (by omega), fun d' hd' hn => ?_, fun hk => (by cases hk), fun d hd => (by cases hd)⟩⟩
   have hne : d' ≠ d := fun e => hn (by simp [TKind.tch, e])
   refine ⟨by rw [put_at, if_neg hne], by rw [put_at, if_neg hne], fun cs b hc hp => ?_⟩
   obtain ⟨b', k1, k2, _⟩ := hR.box d' cs hd' hc
   rw [hp] at k1; cases k1
   exact if_neg (Nat.ne_of_lt (hS.hid b _ k2).2.2.1)
  ·exact gen_sim hK hR hA ht hr hS hb
 ·
  rename_i k d a
  split at ht
  ·rename_i hd
   split at ht
   ·rename_i ha
    cases ht
    rw [Bool.and_eq_true, Bool.not_eq_true'] at ha
    simp only [AOper.run, AOp.run] at hr
    split at hr
    ·rename_i cs hc
     cases hr
     have hc : e'.at d = .agg cs := hc
     obtain ⟨b, k1, k2, k3⟩ := hR.box d cs hd hc
     have hda : d ≠ a := fun e => by rw [e, ha.2] at hd; cases hd
     have he : e.ev (.tmp d) = .pointer (some ⟨b, 0, none⟩) := k1
     refine ⟨⟨.pointer (some ⟨b, 0 + k, none⟩), s, H, by simp only [AOper.run, AOp.run, he, asPtr, Res.bind_ok]; rfl, hS, Nat.le_refl _, hR.put (fun hsp => by rw [spec_ref ha.1] at hsp; cases hsp) (fun hx => by rw [ha.2] at hx; cases hx) (fun _ _ cs hcs => by cases hcs), ?_, fun _ _ => rfl, fun d' hd' _ => ?_, fun hk => (by cases hk), fun d hd => (by cases hd)⟩⟩
     ·intro x hx
      rcases List.mem_cons.1 hx with rfl | hx
      ·exact ⟨hd, ha.1, ha.2, hg, fun _ => ⟨b, cs, by rw [put_at, if_neg hda]; exact k1, by rw [put_at, if_neg hda]; exact hc, by rw [put_at, if_pos rfl, Nat.zero_add]⟩⟩
      ·exact hA.put _ _ _ x hx
     ·have hne : d' ≠ a := fun e => by rw [e, ha.2] at hd'; cases hd'
      exact ⟨by rw [put_at, if_neg hne], by rw [put_at, if_neg hne], fun _ _ _ _ => rfl⟩
    ·cases hr
   ·cases ht
  ·exact gen_sim hK hR hA ht hr hS hb
 ·
  rename_i m t v
  split at ht
  ·split at ht
   ·rename_i d k hf
    split at ht
    ·rename_i hv
     cases ht
     have hv : h.spec v = false := by simpa using hv
     simp only [AOper.run, AOp.run] at hr
     split at hr
     ·rename_i cs hc
      have hc : e'.at d = .agg cs := hc
      obtain ⟨x, hp, hr⟩ := Res.bind_eq_ok.1 hr
      cases hr
      obtain ⟨hd, b, k1, k2, k3, k4⟩ := find_ok hR hA hw hf hc
      have hrun := load_hid hS k2 k3 hp
      refine ⟨⟨v', s, H, hrun, hS, Nat.le_refl _, hR.put (fun _ => rfl) (fun hx => by rw [spec_box hx] at hv; cases hv) (fun hx => by rw [spec_deep hx] at hv; cases hv), hA.put _ _ _, fun _ _ => rfl, fun d' hd' _ => ?_, fun hk => (by cases hk), fun d2 hd2 => ?_⟩⟩
      ·have hne : d' ≠ v := fun e => by rw [← e, spec_box hd'] at hv; cases hv
       exact ⟨by rw [put_at, if_neg hne], by rw [put_at, if_neg hne], fun _ _ _ _ => rfl⟩
      ·cases hd2
       exact ⟨hd, rfl, m, k, t, b, cs, rfl, rfl, k2, k1, hc, k3, hp⟩
     ·cases hr
    ·cases ht
   ·cases ht
  ·exact gen_sim hK hR hA ht hr hS hb
 ·
  rename_i n t x
  split at ht
  ·split at ht
   ·rename_i d k hf
    split at ht
    ·rename_i hx
     cases ht
     rw [Bool.and_eq_true] at hx
     have hgn : g = none := by simpa using hx.2
     subst hgn
     have hxe := ev_congr (free_eq hR hx.1)
     simp only [AOper.run, AOp.run] at hr
     split at hr
     ·rename_i cs hc
      have hc : e'.at d = .agg cs := hc
      obtain ⟨_, h1, hr⟩ := Res.bind_eq_ok.1 hr
      obtain ⟨_, h2, hr⟩ := Res.bind_eq_ok.1 hr
      obtain ⟨_, h3, hr⟩ := Res.bind_eq_ok.1 hr
      obtain ⟨_, h4, hr⟩ := Res.bind_eq_ok.1 hr
      cases hr
      obtain ⟨hd, b, k1, k2, k3, k4⟩ := find_ok hR hA hw hf hc
      rw [← hxe] at h1 h2 h4 ⊢
      obtain ⟨g1, g2, g3, g4⟩ := hS.hid b _ k3
      have het : e.ev (.tmp t) = .pointer (some ⟨b, k, none⟩) := k2
      have hcells : s.cells b = .ok cs.toList := by simp [St.cells, g1]
      have h3' : Res.need (decide (k + (e.ev x).cells.toList.length ≤ cs.toList.length)) "store: too far" = .ok () := by
       rw [Res.need_eq_ok] at h2 h3 ⊢
       simp only [decide_eq_true_eq, Array.length_toList] at h2 h3 ⊢
       rw [h2]; exact h3
      have h5 : Res.need (decide (s.ro ≤ b)) "store: what came in" = .ok () := by simp [Res.need, g4]
      have hst : s.storeN b k (e.ev x).cells.toList = .ok (s.put b (.cells (splice cs.toList k (e.ev x).cells.toList))) := by
       unfold St.storeN
       simp only [hcells, Res.bind_ok, h5, h3', h4]
       rfl
      have hne : ∀ d' cs' b', inL d' h.boxes = true → e'.at d' = .agg cs' → e.at d' = .pointer (some ⟨b', 0, none⟩) → d' ≠ d → b' ≠ b := fun d' cs' b' hd' hc' hp' hn hbb => by
       subst hbb
       exact hn (hR.inj d' d cs' cs b' hd' hd hc' hc hp' k1)
      refine ⟨⟨nothing, _, H.set b (splice cs.toList k (e.ev x).cells.toList), by simp only [AOper.run, AOp.run, het, asPtr, Res.bind_ok, h1, h2, hst]; rfl, hS.change k3 _, Nat.le_refl _, ?_, ?_, fun id hi => if_neg (by omega), fun d' hd' hn => ?_, fun hk => (by cases hk), fun d hd => (by cases hd)⟩⟩
      ·
       constructor
       ·intro u hu
        rw [put_at, if_neg (fun (e : u = d) => by rw [e, spec_box hd] at hu; cases hu)]
        exact hR.eq u hu
       ·intro d' cs' hd' hc'
        rw [put_at] at hc'
        by_cases hdd : d' = d
        ·subst hdd
         rw [if_pos rfl] at hc'
         cases hc'
         exact ⟨b, k1, by simp [Hid.set], k4⟩
        ·rw [if_neg hdd] at hc'
         obtain ⟨b', j1, j2, j3⟩ := hR.box d' cs' hd' hc'
         exact ⟨b', j1, by unfold Hid.set; rw [if_neg (hne d' cs' b' hd' hc' j1 hdd)]; exact j2, j3⟩
       ·intro d1 d2 cs1 cs2 b' hd1 hd2 hc1 hc2 hp1 hp2
        have low : ∀ d' cs', (Env.put e' (some d) (.agg (splice cs.toList k (e.ev x).cells.toList).toArray)).at d' = .agg cs' → ∃ cs', e'.at d' = .agg cs' := fun d' cs' hh => by
         rw [put_at] at hh
         by_cases hdd : d' = d
         ·subst hdd; exact ⟨cs, hc⟩
         ·rw [if_neg hdd] at hh; exact ⟨_, hh⟩
        obtain ⟨c1, hc1⟩ := low _ _ hc1
        obtain ⟨c2, hc2⟩ := low _ _ hc2
        exact hR.inj d1 d2 c1 c2 b' hd1 hd2 hc1 hc2 hp1 hp2
       ·intro d' cs' hd' hb'
        rw [put_at, if_neg (fun (e : d' = d) => by rw [e, hd] at hb'; cases hb')]
        exact hR.blank d' cs' hd' hb'
      ·intro y hy
       obtain ⟨y1, y2, y3, y4, y5⟩ := hA y hy
       refine ⟨y1, y2, y3, y4, fun hwy => ?_⟩
       rw [wants_congr (e' := e') (fun u b hb => by
        rw [put_at, if_neg]
        intro e
        subst e
        rw [hb] at y4
        simp [Hint.freeG, spec_box hd] at y4)] at hwy
       obtain ⟨b', cs', j1, j2, j3⟩ := y5 hwy
       by_cases hyd : y.d = d
       ·exact ⟨b', _, j1, by rw [put_at, if_pos hyd], j3⟩
       ·exact ⟨b', cs', j1, by rw [put_at, if_neg hyd]; exact j2, j3⟩
      ·have hnd : d' ≠ d := fun e => hn (by simp [TKind.tch, e])
       exact ⟨rfl, by rw [put_at, if_neg hnd], fun cs' b' hc' hp' => if_neg (hne d' cs' b' hd' hc' hp' hnd)⟩
     ·cases hr
    ·cases ht
   ·cases ht
  ·exact gen_sim hK hR hA ht hr hS hb
 ·exact gen_sim hK hR hA ht hr hS hb
end
end Go.AM
set_option linter.unusedVariables false
set_option linter.unusedSimpArgs false
namespace Go.AM
section
variable {h : Hint} {base : Nat} {K K' : Ctx}
theorem put_skip {H : Hid} {e e' : Env} {al al' : List Al} {g : Option (Tmp × Bool)} {dst dst' : Option Tmp} {o o' : AOp} {kd : TKind} (hR : EnvH h base H e e') (hA : AlOk h al e e') (hg : h.freeG g = true) (hw : wants e' g = .ok false) (ht : trOp h al g dst o = some (kd, o', dst', al')) :
 EnvH h base H (e.put dst skipped) (e'.put dst' skipped) ∧ AlOk h al' (e.put dst skipped) (e'.put dst' skipped) ∧
  ∀ d, inL d h.boxes = true → d ∉ kd.tch → (e.put dst skipped).at d = e.at d ∧ (e'.put dst' skipped).at d = e'.at d := by
 have gen : ∀ {kd o' dst' al'}, trGen h al dst o = some (kd, o', dst', al') → EnvH h base H (e.put dst skipped) (e'.put dst' skipped) ∧ AlOk h al' (e.put dst skipped) (e'.put dst' skipped) ∧
  ∀ d, inL d h.boxes = true → d ∉ kd.tch → (e.put dst skipped).at d = e.at d ∧ (e'.put dst' skipped).at d = e'.at d := by
  intro kd o' dst' al' ht
  unfold trGen at ht
  split at ht
  ·rename_i hc
   cases ht
   rw [Bool.and_eq_true] at hc
   cases dst with
   | none => exact ⟨hR, hA, fun _ _ _ => ⟨rfl, rfl⟩⟩
   | some t =>
     have ht : h.spec t = false := by simpa [Hint.freeD] using hc.2
     refine ⟨hR.put (fun _ => rfl) (fun _ cs hcs => by cases hcs) (fun _ _ cs hcs => by cases hcs), hA.put _ _ _, fun d hd _ => ?_⟩
     have hne : d ≠ t := fun e => by rw [← e, spec_box hd] at ht; cases ht
     exact ⟨by rw [put_at, if_neg hne], by rw [put_at, if_neg hne]⟩
  ·cases ht
 have ofs : ∀ (t : Tmp), EnvH h base H (e.put (some t) skipped) (e'.put (some t) skipped) := fun t => hR.put (fun _ => rfl) (fun _ cs hcs => by cases hcs) (fun _ _ cs hcs => by cases hcs)
 have oth : ∀ (t d : Tmp), d ≠ t → (e.put (some t) skipped).at d = e.at d ∧ (e'.put (some t) skipped).at d = e'.at d := fun t d hne => ⟨by rw [put_at, if_neg hne], by rw [put_at, if_neg hne]⟩
 unfold trOp at ht
 split at ht
 ·rename_i x d
  split at ht
  ·split at ht
   ·cases ht
    exact ⟨ofs _, hA.put _ _ _, fun d' _ hn => oth _ _ fun e => hn (by simp [TKind.tch, e])⟩
   ·cases ht
  ·exact gen ht
 ·rename_i z d
  split at ht
  ·cases ht
   exact ⟨ofs _, hA.put _ _ _, fun d' _ hn => oth _ _ fun e => hn (by simp [TKind.tch, e])⟩
  ·exact gen ht
 ·rename_i k d a
  split at ht
  ·rename_i hd
   split at ht
   ·rename_i ha
    cases ht
    rw [Bool.and_eq_true, Bool.not_eq_true'] at ha
    refine ⟨ofs _, fun x hx => ?_, fun d' hd' hn => oth _ _ fun e => by rw [e, ha.2] at hd'; cases hd'⟩
    rcases List.mem_cons.1 hx with rfl | hx
    ·refine ⟨hd, ha.1, ha.2, hg, fun hw' => ?_⟩
     rw [wants_congr (e' := e') (fun u b hb => by
      rw [put_at, if_neg]
      intro e
      simp only at hb
      subst hb e
      simp [Hint.freeG, spec_ref ha.1] at hg)] at hw'
     simp only at hw'
     rw [hw] at hw'
     cases hw'
    ·exact hA.put _ _ _ x hx
   ·cases ht
  ·exact gen ht
 ·rename_i m t v
  split at ht
  ·split at ht
   ·split at ht
    ·rename_i hv
     cases ht
     refine ⟨ofs _, hA.put _ _ _, fun d' hd' hn => oth _ _ fun e => ?_⟩
     rw [← e, spec_box hd'] at hv; cases hv
    ·cases ht
   ·cases ht
  ·exact gen ht
 ·rename_i n t x
  split at ht
  ·split at ht
   ·split at ht
    ·rename_i hx
     rw [Bool.and_eq_true] at hx
     have hgn : g = none := by simpa using hx.2
     subst hgn
     cases hw
    ·cases ht
   ·cases ht
  ·exact gen ht
 ·exact gen ht
variable (hK : KSim K K')
include hK
theorem ops_tr : ∀ (l : List AOper) {l' : List AOper} {al : List Al} {H : Hid} {e e' e2' : Env} {s s' s2' : St}, trOps h al l = some l' → opsC K' l' e' s' = .ok (e2', s2') → EnvH h base H e e' → AlOk h al e e' → Sim H s s' → base ≤ s.next →
 ∃ e2 s2 H2, opsC K l e s = .ok (e2, s2) ∧ EnvH h base H2 e2 e2' ∧ Sim H2 s2 s2' ∧ s.next ≤ s2.next ∧ ∀ id, id < base → H2 id = H id := by
 intro l
 induction l with
 | nil =>
   intro l' al H e e' e2' s s' s2' ht k hR hA hS hb
   simp only [trOps, Option.some.injEq] at ht
   subst ht
   cases k
   exact ⟨e, s, H, rfl, hR, hS, Nat.le_refl _, fun _ _ => rfl⟩
 | cons o l ih =>
   intro l' al H e e' e2' s s' s2' ht k hR hA hS hb
   simp only [trOps] at ht
   split at ht
   ·rename_i hg
    split at ht
    ·rename_i kd op dst al' hop
     split at ht
     ·rename_i l2 hl2
      cases ht
      simp only [opsC] at k ⊢
      obtain ⟨b, h1, k⟩ := Res.bind_eq_ok.1 k
      have h1' := h1
      rw [← hR.wants hg] at h1'
      simp only [h1', Res.bind_ok]
      cases b with
      | false =>
        obtain ⟨hR2, hA2, _⟩ := put_skip hR hA hg h1 hop
        exact ih hl2 k hR2 hA2 hS hb
      | true =>
        simp only [if_true] at k ⊢
        obtain ⟨⟨v', s1'⟩, h2, k⟩ := Res.bind_eq_ok.1 k
        obtain ⟨M⟩ := trOp_sim hK hR hA h1 hg hop h2 hS hb
        simp only [M.run, Res.bind_ok]
        obtain ⟨e2, s2, H2, r, hR2, hS2, hn, hH⟩ := ih hl2 k M.env M.al M.sim (Nat.le_trans hb M.next)
        exact ⟨e2, s2, H2, r, hR2, hS2, Nat.le_trans M.next hn, fun id hi => (hH id hi).trans (M.frame id hi)⟩
     ·cases ht
    ·cases ht
   ·cases ht
def SnapL (h : Hint) (tch : List Tmp) (H : Hid) (e e' : Env) : List St → List St → Prop
 | [], [] => True
 | s :: l, s' :: l' => (∃ Hs, Sim Hs s s' ∧ ∀ d cs b, inL d h.boxes = true → d ∉ tch → e'.at d = .agg cs → e.at d = .pointer (some ⟨b, 0, none⟩) → Hs b = H b) ∧ SnapL h tch H e e' l l'
 | _, _ => False
omit hK in
theorem SnapL.sim {tch : List Tmp} {H : Hid} {e e' : Env} : ∀ {l l' : List St}, SnapL h tch H e e' l l' → SimL l l'
 | [], [], _ => by trivial
 | s :: l, s' :: l', k => ⟨k.1.imp fun _ k => k.1, SnapL.sim k.2⟩
 | [], _ :: _, k => k.elim
 | _ :: _, [], k => k.elim
omit hK in
theorem SnapL.mono {tch tch' : List Tmp} {H H2 : Hid} {e e' e2 e2' : Env} (hm : ∀ d cs b, inL d h.boxes = true → d ∉ tch' → e2'.at d = .agg cs → e2.at d = .pointer (some ⟨b, 0, none⟩) → d ∉ tch ∧ e'.at d = .agg cs ∧ e.at d = .pointer (some ⟨b, 0, none⟩) ∧ H2 b = H b) : ∀ {l l' : List St}, SnapL h tch H e e' l l' → SnapL h tch' H2 e2 e2' l l'
 | [], [], _ => by trivial
 | s :: l, s' :: l', k => by
   obtain ⟨⟨Hs, k1, k2⟩, k3⟩ := k
   refine ⟨⟨Hs, k1, fun d cs b hd hn hc hp => ?_⟩, k3.mono hm⟩
   obtain ⟨m1, m2, m3, m4⟩ := hm d cs b hd hn hc hp
   rw [m4]; exact k2 d cs b hd m1 m2 m3
 | [], _ :: _, k => k.elim
 | _ :: _, [], k => k.elim
omit hK in
theorem SnapL.take {tch : List Tmp} {H : Hid} {e e' : Env} : ∀ {l l' : List St} (n : Nat), SnapL h tch H e e' l l' → SnapL h tch H e e' (l.take n) (l'.take n)
 | [], [], n, k => by simp [SnapL]
 | s :: l, s' :: l', 0, k => by simp [SnapL]
 | s :: l, s' :: l', n + 1, k => ⟨k.1, SnapL.take n k.2⟩
 | [], _ :: _, _, k => k.elim
 | _ :: _, [], _, k => k.elim
omit hK in
theorem stays_box {tch : List Tmp} {H : Hid} {e e' : Env} {base : Nat} {m : Option Nat} {t d : Tmp} {k b : Nat} {cs : Array Value} {v : Value} (hd : inL d h.boxes = true) (hn : d ∉ tch) (ht : e.at t = .pointer (some ⟨b, k, none⟩)) (hp : e.at d = .pointer (some ⟨b, 0, none⟩)) (hc : e'.at d = .agg cs) (hb : H b = some cs.toList) (hv : part m cs.toList k = .ok v) :
 ∀ {l l' : List St}, SnapL h tch H e e' l l' → stays l' base e'.ev (.field m k (.tmp d)) v = true → stays l base e.ev (.load m (.tmp t)) v = true := by
 intro l l' hl hs
 unfold stays at hs ⊢
 rw [Bool.or_eq_true] at hs ⊢
 refine .inr ?_
 rcases hs with hs | hs
 ·simp [AOp.looks, AOp.lookAt] at hs
 ·have he : e'.ev (.tmp d) = .agg cs := hc
  have hrun : ∀ st : St, (AOp.field m k (.tmp d)).run st e'.ev = .ok (v, st) := fun st => by simp only [AOp.run, he, hv, Res.bind_ok]; rfl
  induction l generalizing l' with
  | nil => rfl
  | cons s l ih =>
    cases l' with
    | nil => exact hl.elim
    | cons s' l' =>
      obtain ⟨⟨Hs, hS, hB⟩, hl⟩ := hl
      simp only [List.all_cons, Bool.and_eq_true] at hs ⊢
      refine ⟨?_, ih hl hs.2⟩
      have hs := hs.1
      rw [hrun] at hs
      rw [load_hid hS ht ((hB d cs b hd hn hc hp).trans hb) hv]
      exact hs
omit hK in
theorem stays_gen {o : AOp} {v : Value} {e e' : Env} {base : Nat} (hf : ∀ t ∈ o.reads, e.at t = e'.at t) {l l' : List St} (hl : SimL l l') (hs : stays l' base e'.ev o v = true) : stays l base e.ev o v = true := by
 have := stays_sim hl hs
 unfold stays at this ⊢
 rw [looks_congr hf]
 simp only [run_congr hf]
 exact this
theorem draw_tr : ∀ (l : List DOper) {l' : List DOper} {al : List Al} {tch : List Tmp} {sn sn' : List St} {b0 : Nat} {H : Hid} {e e' e2' : Env} {s s' s2' : St}, trDraw h al tch l = some l' → drawC K' l' sn' b0 e' s' = .ok (e2', s2') → EnvH h base H e e' → AlOk h al e e' → SnapL h tch H e e' sn sn' → Sim H s s' → base ≤ s.next →
 ∃ e2 s2 H2, drawC K l sn b0 e s = .ok (e2, s2) ∧ EnvH h base H2 e2 e2' ∧ Sim H2 s2 s2' ∧ s.next ≤ s2.next ∧ ∀ id, id < base → H2 id = H id := by
 intro l
 induction l with
 | nil =>
   intro l' al tch sn sn' b0 H e e' e2' s s' s2' ht k hR hA hL hS hb
   simp only [trDraw, Option.some.injEq] at ht
   subst ht
   cases k
   exact ⟨e, s, H, rfl, hR, hS, Nat.le_refl _, fun _ _ => rfl⟩
 | cons d l ih =>
   intro l' al tch sn sn' b0 H e e' e2' s s' s2' ht k hR hA hL hS hb
   simp only [trDraw] at ht
   split at ht
   ·rename_i hg
    split at ht
    ·rename_i kd op dst al' hop
     split at ht
     ·rename_i hdr
      split at ht
      ·rename_i l2 hl2
       cases ht
       simp only [drawC] at k ⊢
       obtain ⟨b, h1, k⟩ := Res.bind_eq_ok.1 k
       have h1' := h1
       rw [← hR.wants hg] at h1'
       simp only [h1', Res.bind_ok]
       cases b with
       | false =>
         obtain ⟨hR2, hA2, hO⟩ := put_skip hR hA hg h1 hop
         refine ih hl2 k hR2 hA2 (hL.mono fun d cs b hd hn hc hp => ?_) hS hb
         rw [List.mem_append, not_or] at hn
         obtain ⟨o1, o2⟩ := hO d hd hn.1
         rw [o1] at hp
         rw [o2] at hc
         exact ⟨hn.2, hc, hp, rfl⟩
       | true =>
         simp only [if_true] at k ⊢
         obtain ⟨⟨v', s1'⟩, h2, k⟩ := Res.bind_eq_ok.1 k
         obtain ⟨M⟩ := trOp_sim hK hR hA h1 hg hop h2 hS hb
         simp only [M.run, Res.bind_ok]
         have hL2 : ∀ {a a' : List St}, SnapL h tch H e e' a a' → SnapL h (kd.tch ++ tch) M.H2 (e.put d.o.dst M.v) (e'.put dst v') a a' := fun ha => ha.mono fun d cs b hd hn hc hp => by
          rw [List.mem_append, not_or] at hn
          obtain ⟨o1, o2, o3⟩ := M.others d hd hn.1
          rw [o1] at hp
          rw [o2] at hc
          exact ⟨hn.2, hc, hp, o3 cs b hc hp⟩
         cases hw : d.writes with
         | true =>
           simp only [hw, if_true] at k ⊢
           rw [← M.sim.next] at k
           obtain ⟨e2, s2, H2, r, hR2, hS2, hn, hH⟩ := ih hl2 k M.env M.al (hL2 (a := s :: sn) (a' := s' :: sn') ⟨⟨H, hS, fun _ _ _ _ _ _ _ => rfl⟩, hL⟩) M.sim (Nat.le_trans hb M.next)
           exact ⟨e2, s2, H2, r, hR2, hS2, Nat.le_trans M.next hn, fun id hi => (hH id hi).trans (M.frame id hi)⟩
         | false =>
           simp only [hw] at k ⊢
           obtain ⟨_, h3, k⟩ := Res.bind_eq_ok.1 k
           have h3' : Res.need (d.back = 0 || stays (sn.take d.back) b0 e.ev d.o.op M.v) "order" = .ok () := by
            rw [Res.need_eq_ok] at h3 ⊢
            rw [Bool.or_eq_true] at h3 ⊢
            by_cases hz : d.back = 0
            ·exact .inl (by simpa using hz)
            ·have hz' : Nat.beq d.back 0 = false := beq_false hz
             have h3 : stays (sn'.take d.back) b0 e'.ev op v' = true := h3.resolve_left (by simpa using hz)
             refine .inr ?_
             cases kd with
             | gen =>
               obtain ⟨g1, g2, g3⟩ := M.gen rfl
               rw [g1, g2] at h3
               exact stays_gen (free_eq hR g3) (hL.take _).sim h3
             | ld t =>
               obtain ⟨g1, g2, m, k, t2, b, cs, g3, g4, g5, g6, g7, g8, g9⟩ := M.ld t rfl
               have hnt : t ∉ tch := by
                simp only [drOk, hw, hz', Bool.false_or, Bool.not_eq_true'] at hdr
                intro hh
                rw [inL_iff.2 hh] at hdr
                cases hdr
               rw [g4, g2] at h3
               have key := stays_box g1 hnt g5 g6 g7 g8 g9 (hL.take _) h3
               rw [← g3] at key
               exact key
             | own l =>
               simp only [drOk, hw, hz', Bool.false_or] at hdr
               cases hdr
           simp only [h3', Res.bind_ok]
           obtain ⟨e2, s2, H2, r, hR2, hS2, hn, hH⟩ := ih hl2 k M.env M.al (hL2 hL) M.sim (Nat.le_trans hb M.next)
           exact ⟨e2, s2, H2, r, hR2, hS2, Nat.le_trans M.next hn, fun id hi => (hH id hi).trans (M.frame id hi)⟩
      ·cases ht
     ·cases ht
    ·cases ht
   ·cases ht
omit hK in
theorem iter_tr {f f' : Env → St → Res (AExit × Env × St)} (hf : ∀ {e e' s s' H x e2' s2'}, f' e' s' = .ok (x, e2', s2') → EnvH h base H e e' → Sim H s s' → base ≤ s.next → ∃ e2 s2 H2, f e s = .ok (x, e2, s2) ∧ EnvH h base H2 e2 e2' ∧ Sim H2 s2 s2' ∧ s.next ≤ s2.next ∧ ∀ id, id < base → H2 id = H id) :
 ∀ (n : Nat) {e e' s s' H x e2' s2'}, iterC f' n e' s' = .ok (x, e2', s2') → EnvH h base H e e' → Sim H s s' → base ≤ s.next → ∃ e2 s2 H2, iterC f n e s = .ok (x, e2, s2) ∧ EnvH h base H2 e2 e2' ∧ Sim H2 s2 s2' ∧ s.next ≤ s2.next ∧ ∀ id, id < base → H2 id = H id := by
 intro n
 induction n with
 | zero => intro e e' s s' H x e2' s2' k; cases k
 | succ n ih =>
   intro e e' s s' H x e2' s2' k hR hS hb
   simp only [iterC] at k ⊢
   obtain ⟨⟨x1, e1', s1'⟩, h1, k⟩ := Res.bind_eq_ok.1 k
   obtain ⟨e1, s1, H1, r1, hR1, hS1, hn, hH⟩ := hf h1 hR hS hb
   simp only [r1, Res.bind_ok]
   cases x1 with
   | normal =>
     simp only [] at k ⊢
     obtain ⟨e2, s2, H2, r2, hR2, hS2, hn2, hH2⟩ := ih k hR1 hS1 (Nat.le_trans hb hn)
     exact ⟨e2, s2, H2, r2, hR2, hS2, Nat.le_trans hn hn2, fun id hi => (hH2 id hi).trans (hH id hi)⟩
   | exit j => cases k; exact ⟨e1, s1, H1, rfl, hR1, hS1, hn, hH⟩
   | ret => cases k; exact ⟨e1, s1, H1, rfl, hR1, hS1, hn, hH⟩
omit hK in
theorem keep_at_in (e : Env) : ∀ (l : List Tmp) (t : Tmp), (e.keep l).at t = if t ∈ l then e.at t else nothing := by
 intro l
 induction l with
 | nil => intro t; rfl
 | cons u l ih =>
   intro t
   show (Env.set (e.keep l) u (e.at u)).at t = _
   by_cases h : t = u
   ·subst h; simp
   ·rw [Env.at_set_ne _ _ h, ih]; simp [h]
omit hK in
theorem EnvH.keep {H : Hid} {e e' : Env} (hR : EnvH h base H e e') (l : List Tmp) : EnvH h base H (e.keep l) (e'.keep l) where
 eq := fun t ht => by rw [keep_at_in, keep_at_in, hR.eq t ht]
 box := fun d cs hd hc => by
  rw [keep_at_in] at hc ⊢
  split at hc
  ·rename_i hl
   rw [if_pos hl]; exact hR.box d cs hd hc
  ·cases hc
 inj := fun d d' cs cs' b hd hd' hc hc' hp hp' => by
  rw [keep_at_in] at hc hc' hp hp'
  split at hc
  ·rename_i hl
   split at hc'
   ·rename_i hl'
    rw [if_pos hl] at hp
    rw [if_pos hl'] at hp'
    exact hR.inj d d' cs cs' b hd hd' hc hc' hp hp'
   ·cases hc'
  ·cases hc
 blank := fun d cs hd hb => by
  rw [keep_at_in]
  split
  ·exact hR.blank d cs hd hb
  ·intro hx; cases hx
omit hK in
theorem EnvH.putL {H : Hid} : ∀ (ps : List Tmp) {e e' : Env} (vs : List Value), h.free ps = true → EnvH h base H e e' → EnvH h base H (putL e ps vs) (putL e' ps vs)
 | [], e, e', vs, _, hR => by simpa [AM.putL] using hR
 | p :: ps, e, e', [], _, hR => by simpa [AM.putL] using hR
 | p :: ps, e, e', v :: vs, hf, hR => by
   simp only [Hint.free, List.all_cons, Bool.and_eq_true, Bool.not_eq_true'] at hf
   simp only [AM.putL]
   refine EnvH.putL ps vs hf.2 ?_
   have := hR.put (t := p) (v := v) (v' := v) (fun _ => rfl) (fun hx => by rw [spec_box hx] at hf; exact absurd hf.1 (by simp)) (fun hx => by rw [spec_deep hx] at hf; exact absurd hf.1 (by simp))
   exact this
omit hK in
theorem EnvH.enter {H H2 : Hid} {base2 : Nat} {e e' : Env} (hR : EnvH h base H e e') (hd : h.inner.all (fun l => l.all fun d => !inL d h.boxes) = true) :
 (∀ t, h.enter.spec t = false → e.at t = e'.at t) ∧ ∀ d cs, (inL d h.enter.boxes = true ∨ h.enter.deep d = true) → e'.at d ≠ .agg cs := by
 refine ⟨fun t ht => hR.eq t (by rw [← enter_spec]; exact ht), fun d cs hdd => ?_⟩
 have hdeep : h.deep d = true := by
  unfold Hint.enter Hint.deep at hdd
  unfold Hint.deep
  cases hi : h.inner with
  | nil => rw [hi] at hdd; simp [inL] at hdd
  | cons l ls =>
    rw [hi] at hdd
    simp only [List.headD_cons, List.tail_cons] at hdd
    simp only [List.any_cons, Bool.or_eq_true]
    exact hdd
 refine hR.blank d cs hdeep ?_
 unfold Hint.deep at hdeep
 rw [List.any_eq_true] at hdeep
 obtain ⟨l, hl, hdl⟩ := hdeep
 have := List.all_eq_true.1 (List.all_eq_true.1 hd l hl) d (inL_iff.1 hdl)
 simpa using this
omit hK in
theorem EnvH.ofLoop {H : Hid} {e e' : Env} (he : ∀ t, h.spec t = false → e.at t = e'.at t) (hn : ∀ d cs, (inL d h.boxes = true ∨ h.deep d = true) → e'.at d ≠ .agg cs) : EnvH h base H e e' where
 eq := he
 box := fun d cs hd hc => absurd hc (hn d cs (.inl hd))
 inj := fun d d' cs cs' b hd hd' hc => absurd hc (hn d cs (.inl hd))
 blank := fun d cs hd _ => hn d cs (.inr hd)
omit h base in
theorem code_tr : ∀ (c : ACode) {h : Hint} {base : Nat} {c' : ACode} {H : Hid} {e e' e2' : Env} {s s' s2' : St} {x : AExit}, trC h c = some c' → codeC K' c' e' s' = .ok (x, e2', s2') → EnvH h base H e e' → Sim H s s' → base ≤ s.next →
 ∃ e2 s2 H2, codeC K c e s = .ok (x, e2, s2) ∧ EnvH h base H2 e2 e2' ∧ Sim H2 s2 s2' ∧ s.next ≤ s2.next ∧ ∀ id, id < base → H2 id = H id := by
 intro c
 induction c with
 | skip =>
   intro h base c' H e e' e2' s s' s2' x ht k hR hS hb
   cases ht; cases k; exact ⟨e, s, H, rfl, hR, hS, Nat.le_refl _, fun _ _ => rfl⟩
 | ops l =>
   intro h base c' H e e' e2' s s' s2' x ht k hR hS hb
   simp only [trC, Option.map_eq_some_iff] at ht
   obtain ⟨l', ht, rfl⟩ := ht
   simp only [codeC] at k ⊢
   obtain ⟨⟨e1', s1'⟩, h1, k⟩ := Res.bind_eq_ok.1 k
   cases k
   obtain ⟨e2, s2, H2, r, hh⟩ := ops_tr hK l ht h1 hR (fun x hx => by cases hx) hS hb
   simp only [r, Res.bind_ok]
   exact ⟨e2, s2, H2, rfl, hh⟩
 | draw l =>
   intro h base c' H e e' e2' s s' s2' x ht k hR hS hb
   simp only [trC, Option.map_eq_some_iff] at ht
   obtain ⟨l', ht, rfl⟩ := ht
   simp only [codeC] at k ⊢
   obtain ⟨⟨e1', s1'⟩, h1, k⟩ := Res.bind_eq_ok.1 k
   cases k
   rw [← hS.next] at h1
   obtain ⟨e2, s2, H2, r, hh⟩ := draw_tr hK l (sn := []) ht h1 hR (fun x hx => by cases hx) (by trivial) hS hb
   simp only [r, Res.bind_ok]
   exact ⟨e2, s2, H2, rfl, hh⟩
 | seq a b iha ihb =>
   intro h base c' H e e' e2' s s' s2' x ht k hR hS hb
   simp only [trC] at ht
   split at ht
   ·rename_i a' ha
    simp only [Option.map_eq_some_iff] at ht
    obtain ⟨b', hb', rfl⟩ := ht
    simp only [codeC] at k ⊢
    obtain ⟨⟨x1, e1', s1'⟩, h1, k⟩ := Res.bind_eq_ok.1 k
    obtain ⟨e1, s1, H1, r1, hR1, hS1, hn, hH⟩ := iha ha h1 hR hS hb
    simp only [r1, Res.bind_ok]
    cases x1 with
    | normal =>
      simp only [] at k ⊢
      obtain ⟨e2, s2, H2, r2, hR2, hS2, hn2, hH2⟩ := ihb hb' k hR1 hS1 (Nat.le_trans hb hn)
      exact ⟨e2, s2, H2, r2, hR2, hS2, Nat.le_trans hn hn2, fun id hi => (hH2 id hi).trans (hH id hi)⟩
    | exit j => cases k; exact ⟨e1, s1, H1, rfl, hR1, hS1, hn, hH⟩
    | ret => cases k; exact ⟨e1, s1, H1, rfl, hR1, hS1, hn, hH⟩
   ·cases ht
 | cond c a b iha ihb =>
   intro h base c' H e e' e2' s s' s2' x ht k hR hS hb
   simp only [trC] at ht
   split at ht
   ·rename_i hc
    split at ht
    ·rename_i a' ha
     simp only [Option.map_eq_some_iff] at ht
     obtain ⟨b', hb', rfl⟩ := ht
     simp only [codeC] at k ⊢
     rw [ev_congr (free_eq hR hc)]
     split at k
     ·exact iha ha k hR hS hb
     ·exact ihb hb' k hR hS hb
     ·cases k
    ·cases ht
   ·cases ht
 | block i b ih =>
   intro h base c' H e e' e2' s s' s2' x ht k hR hS hb
   simp only [trC, Option.map_eq_some_iff] at ht
   obtain ⟨b', hb', rfl⟩ := ht
   simp only [codeC] at k ⊢
   obtain ⟨⟨x1, e1', s1'⟩, h1, k⟩ := Res.bind_eq_ok.1 k
   obtain ⟨e1, s1, H1, r1, hR1, hS1, hn, hH⟩ := ih hb' h1 hR hS hb
   simp only [r1, Res.bind_ok]
   cases x1 with
   | normal => cases k; exact ⟨e1, s1, H1, rfl, hR1, hS1, hn, hH⟩
   | exit j => cases k; exact ⟨e1, s1, H1, rfl, hR1, hS1, hn, hH⟩
   | ret => cases k; exact ⟨e1, s1, H1, rfl, hR1, hS1, hn, hH⟩
 | loop b ih =>
   intro h base c' H e e' e2' s s' s2' x ht k hR hS hb
   simp only [trC, Option.map_eq_some_iff] at ht
   obtain ⟨b', hb', rfl⟩ := ht
   obtain ⟨n, hn, hn'⟩ := hK.rounds
   simp only [codeC, hn, hn'] at k ⊢
   exact iter_tr (f := codeC K b) (f' := codeC K' b') (fun k hR hS hb => ih hb' k hR hS hb) n k hR hS hb
 | range f ps assign body _ _ =>
   intro h base c' H e e' e2' s s' s2' x ht k hR hS hb
   simp only [trC] at ht
   split at ht
   ·rename_i hc
    rw [Bool.and_eq_true, Bool.and_eq_true] at hc
    obtain ⟨hf, hps, hd⟩ := hc
    split at ht
    ·rename_i a' ha
     simp only [Option.map_eq_some_iff] at ht
     obtain ⟨b', hb', rfl⟩ := ht
     obtain ⟨en1, en2⟩ := EnvH.enter (H2 := H) (base2 := 0) hR hd
     have hps' : h.enter.free ps = true := by
      unfold Hint.free at hps ⊢
      simpa only [enter_spec] using hps
     simp only [codeC] at k ⊢
     rw [ev_congr (free_eq hR hf), hS.next]
     obtain ⟨t, h1, k⟩ := Res.bind_eq_ok.1 k
     obtain ⟨_, h2, k⟩ := Res.bind_eq_ok.1 k
     obtain ⟨⟨v, s1'⟩, h3, k⟩ := Res.bind_eq_ok.1 k
     obtain ⟨s1, H1, r1, hS1, hn, hH⟩ := hK.go h3 (hS.alloc2 (.loop (st := .ready) (pd := .normal) ha hb' hps' en1 en2))
     simp only [h1, h2, r1, Res.bind_ok]
     simp only [] at k
     split at k
     ·rename_i e5 ps5 as5 bd5 state pend hg
      obtain ⟨_, _, _, hg1, hnn, _⟩ := hS1.getLoop hg
      obtain ⟨_, h4, k⟩ := Res.bind_eq_ok.1 k
      cases k
      rw [hg1]
      simp only [h4, Res.bind_ok]
      have hn : s.next + 1 ≤ s1.next := hn
      have hH' : ∀ id, id < s.next → H1 id = H id := fun id hi => hH id (Nat.lt_succ_of_lt hi)
      refine ⟨e, _, H1, rfl, hR.hid fun d cs b hd hc hp => ?_, hS1.put hnn _, (by show s'.next ≤ s1.next; have := hS.next; omega), fun id hi => hH' id (Nat.lt_of_lt_of_le hi hb)⟩
      obtain ⟨b', k1, k2, _⟩ := hR.box d cs hd hc
      rw [hp] at k1; cases k1
      exact hH' b (hS.hid b _ k2).2.2.1
     ·cases k
    ·cases ht
   ·cases ht
 | exit i =>
   intro h base c' H e e' e2' s s' s2' x ht k hR hS hb
   cases ht; cases k; exact ⟨e, s, H, rfl, hR, hS, Nat.le_refl _, fun _ _ => rfl⟩
 | ret =>
   intro h base c' H e e' e2' s s' s2' x ht k hR hS hb
   cases ht; cases k; exact ⟨e, s, H, rfl, hR, hS, Nat.le_refl _, fun _ _ => rfl⟩
 | keep l =>
   intro h base c' H e e' e2' s s' s2' x ht k hR hS hb
   cases ht; cases k; exact ⟨_, s, H, rfl, hR.keep l, hS, Nat.le_refl _, fun _ _ => rfl⟩
omit hK in
theorem results_tr {H : Hid} {e e' : Env} {s s' : St} (hR : EnvH h base H e e') (hS : Sim H s s') : ∀ (rs : List ARes) {rs' : List ARes} {vs : List Value}, trRes h rs = some rs' → resultsC e' s' rs' = .ok vs → resultsC e s rs = .ok vs := by
 intro rs
 induction rs with
 | nil => intro rs' vs ht k; cases ht; exact k
 | cons r rs ih =>
   intro rs' vs ht k
   cases r with
   | tmp t =>
     simp only [trRes] at ht
     split at ht
     ·cases ht
     ·rename_i hsp
      simp only [Option.map_eq_some_iff] at ht
      obtain ⟨rs2, ht, rfl⟩ := ht
      simp only [resultsC] at k ⊢
      obtain ⟨l, h1, k⟩ := Res.bind_eq_ok.1 k
      simp only [ih ht h1, Res.bind_ok]
      rw [hR.eq t (by simpa using hsp)]; exact k
   | cell t n =>
     simp only [trRes] at ht
     split at ht
     ·rename_i hd
      simp only [Option.map_eq_some_iff] at ht
      obtain ⟨rs2, ht, rfl⟩ := ht
      simp only [resultsC] at k ⊢
      obtain ⟨⟨v, s1⟩, h0, k⟩ := Res.bind_eq_ok.1 k
      obtain ⟨l, h1, k⟩ := Res.bind_eq_ok.1 k
      simp only [AOp.run] at h0
      split at h0
      ·rename_i cs hc
       have hc : e'.at t = .agg cs := hc
       obtain ⟨x, hp, h0⟩ := Res.bind_eq_ok.1 h0
       cases h0
       obtain ⟨b, k1, k2, _⟩ := hR.box t cs hd hc
       simp only [load_hid hS k1 k2 hp, ih ht h1, Res.bind_ok]; exact k
      ·cases h0
     ·split at ht
      ·cases ht
      ·rename_i hsp
       simp only [Option.map_eq_some_iff] at ht
       obtain ⟨rs2, ht, rfl⟩ := ht
       simp only [resultsC] at k ⊢
       obtain ⟨⟨v, s1⟩, h0, k⟩ := Res.bind_eq_ok.1 k
       obtain ⟨l, h1, k⟩ := Res.bind_eq_ok.1 k
       obtain ⟨s2, ht2, _⟩ := run_sim hS h0
       rw [← run_congr (e := e) (fun u hu => hR.eq u (by
        simp only [AOp.reads, opdT, List.mem_singleton] at hu
        subst hu
        simpa using hsp))] at ht2
       simp only [ht2, ih ht h1, Res.bind_ok]; exact k
   | part t n => cases ht
end
theorem start_at (args : List Value) (t : Tmp) (ht : args.length ≤ t) : (start args).at t = nothing := by
 unfold start
 have key : ∀ (vs : List Value) (e : Env) (k : Nat), e.at t = nothing → k + vs.length ≤ t → (putL e (List.range' k vs.length) vs).at t = nothing := by
  intro vs
  induction vs with
  | nil => intro e k he _; simpa [putL] using he
  | cons v vs ih =>
    intro e k he hk
    simp only [List.length_cons, List.range'_succ, putL] at hk ⊢
    have hk2 : k + 1 + vs.length ≤ t := by omega
    exact ih _ _ (by rw [Env.at_set_ne _ _ (Nat.ne_of_gt (by omega))]; exact he) hk2
 rw [List.range_eq_range']
 exact key args [] 0 rfl (by simpa using ht)
theorem run_hide (Γ : Funs) (hs : List (Nat × Hint)) : ∀ n, KSim (ctxOf (runT Γ n) n) (ctxOf (runT (hide Γ hs) n) n) := by
 intro n
 induction n with
 | zero => exact ⟨fun k _ => (by cases k), 0, rfl, rfl⟩
 | succ n ih =>
   refine ⟨fun {t s s' H v s2'} k hS => ?_, n + 1, rfl, rfl⟩
   show ∃ s2 H2, runT Γ (n + 1) t s = .ok (v, s2) ∧ _
   have k : runT (hide Γ hs) (n + 1) t s' = .ok (v, s2') := k
   cases t with
   | call f args =>
     simp only [runT] at k ⊢
     obtain ⟨fn', h1, k⟩ := Res.bind_eq_ok.1 k
     obtain ⟨_, h2, k⟩ := Res.bind_eq_ok.1 k
     obtain ⟨⟨x, e2', s1'⟩, h3, k⟩ := Res.bind_eq_ok.1 k
     have h1 := Res.of_eq_ok.1 h1
     unfold hide at h1
     cases hh : findH hs f with
     | none =>
       rw [hh] at h1
       simp only at h1
       obtain ⟨s2, H2, r, hS2, hn, hH⟩ := code_same ih _ h3 hS
       simp only [h1, Res.of_some, Res.bind_ok, h2, r]
       cases x with
       | exit i => cases k
       | normal =>
         simp only [] at k ⊢
         obtain ⟨vs, h4, k⟩ := Res.bind_eq_ok.1 k
         cases k
         simp only [results_same hS2 _ h4, Res.bind_ok]
         exact ⟨s2, H2, rfl, hS2, hn, hH⟩
       | ret =>
         simp only [] at k ⊢
         obtain ⟨vs, h4, k⟩ := Res.bind_eq_ok.1 k
         cases k
         simp only [results_same hS2 _ h4, Res.bind_ok]
         exact ⟨s2, H2, rfl, hS2, hn, hH⟩
     | some h =>
       rw [hh] at h1
       simp only [Option.bind_eq_some_iff] at h1
       obtain ⟨fn, hf, htr⟩ := h1
       unfold trF at htr
       split at htr
       ·rename_i hc
        rw [Bool.and_eq_true, Bool.and_eq_true, Bool.and_eq_true] at hc
        obtain ⟨⟨⟨hc1, hc2⟩, hc4⟩, hc3⟩ := hc
        split at htr
        ·rename_i c rs hcb hcr
         cases htr
         have hlen : args.length ≤ h.np := by simpa [Res.need_eq_ok] using h2
         have hnp : h.np ≤ fn.ntmps := Nat.le_of_ble_eq_true hc3
         have hsp : ∀ t, h.spec t = true → (start args).at t = nothing := fun t ht => by
          simp only [Hint.spec, Bool.or_eq_true] at ht
          refine start_at args t (Nat.le_trans hlen ?_)
          rcases ht with ht | ht | ht
          ·exact Nat.le_of_ble_eq_true (List.all_eq_true.1 hc1 t (inL_iff.1 ht))
          ·exact Nat.le_of_ble_eq_true (List.all_eq_true.1 hc2 t (inL_iff.1 ht))
          ·unfold Hint.deep at ht
           rw [List.any_eq_true] at ht
           obtain ⟨l, hl, ht⟩ := ht
           exact Nat.le_of_ble_eq_true (List.all_eq_true.1 (List.all_eq_true.1 hc4 l hl) t (inL_iff.1 ht))
         have hR : EnvH h s.next H (start args) (start args) := ⟨fun _ _ => rfl, fun d cs hd hc => (by rw [hsp d (spec_box hd)] at hc; cases hc), fun d d' cs cs' b hd hd' hc => (by rw [hsp d (spec_box hd)] at hc; cases hc), fun d cs hd _ hc => (by rw [hsp d (spec_deep hd)] at hc; cases hc)⟩
         obtain ⟨e2, s2, H2, r, hR2, hS2, hn, hH⟩ := code_tr ih _ hcb h3 hR hS (Nat.le_refl _)
         have h2' : Res.need (decide (args.length ≤ fn.ntmps)) "too many arguments" = .ok () := by simp [Res.need_eq_ok]; omega
         simp only [hf, Res.of_some, Res.bind_ok, h2', r]
         cases x with
         | exit i => cases k
         | normal =>
           simp only [] at k ⊢
           obtain ⟨vs, h4, k⟩ := Res.bind_eq_ok.1 k
           cases k
           simp only [results_tr hR2 hS2 _ hcr h4, Res.bind_ok]
           exact ⟨s2, H2, rfl, hS2, hn, hH⟩
         | ret =>
           simp only [] at k ⊢
           obtain ⟨vs, h4, k⟩ := Res.bind_eq_ok.1 k
           cases k
           simp only [results_tr hR2 hS2 _ hcr h4, Res.bind_ok]
           exact ⟨s2, H2, rfl, hS2, hn, hH⟩
        ·cases htr
       ·cases htr
   | round l args =>
     simp only [runT] at k ⊢
     split at k
     ·rename_i e' ps assign' body' s0 p0 hg
      obtain ⟨e, assign, body, hg1, hH1, hob⟩ := hS.getLoop hg
      rw [hg1]
      obtain ⟨_, h1, k⟩ := Res.bind_eq_ok.1 k
      obtain ⟨_, h2, k⟩ := Res.bind_eq_ok.1 k
      obtain ⟨⟨x, e1', s1'⟩, h3, k⟩ := Res.bind_eq_ok.1 k
      rw [← hS.ro] at h2
      have key1 : ∃ e1 s1 Ha, codeC (ctxOf (runT Γ n) n) assign (putL e ps args) s = .ok (x, e1, s1) ∧ Sim Ha s1 s1' ∧ s.next ≤ s1.next ∧ (∀ id, id < s.next → Ha id = H id) ∧
       ∀ {s5 s5' : St} {s6' : St} {H5 : Hid} {x2 : AExit} {e2' : Env}, codeC (ctxOf (runT (hide Γ hs) n) n) body' e1' s5' = .ok (x2, e2', s6') → Sim H5 s5 s5' → s5.next = s1.next → (∀ id, id ≠ l → H5 id = Ha id) → H5 l = Ha l →
         ∃ e2 s6 H6, codeC (ctxOf (runT Γ n) n) body e1 s5 = .ok (x2, e2, s6) ∧ Sim H6 s6 s6' ∧ s5.next ≤ s6.next ∧ ∀ id, id < s.next → H6 id = H5 id := by
       rcases hob with ⟨rfl, rfl, rfl⟩ | ⟨h, ha, hb, hps, he, hn⟩
       ·obtain ⟨s1, Ha, r1, hS1, hn1, hHa⟩ := code_same ih _ h3 hS
        refine ⟨_, s1, Ha, r1, hS1, hn1, hHa, fun k5 hS5 hn5 _ _ => ?_⟩
        obtain ⟨s6, H6, r6, hS6, hn6, hH6⟩ := code_same ih _ k5 hS5
        exact ⟨_, s6, H6, r6, hS6, hn6, fun id hi => hH6 id (by omega)⟩
       ·obtain ⟨e1, s1, Ha, r1, hR1, hS1, hn1, hHa⟩ := code_tr ih _ ha h3 (EnvH.putL ps args hps (EnvH.ofLoop (base := s.next) (H := H) he hn)) hS (Nat.le_refl _)
        refine ⟨e1, s1, Ha, r1, hS1, hn1, hHa, fun k5 hS5 hn5 hh hl => ?_⟩
        obtain ⟨e2, s6, H6, r6, hR6, hS6, hn6, hH6⟩ := code_tr ih _ hb k5 (hR1.hid fun d cs b _ _ _ => by
         by_cases hbl : b = l
         ·rw [hbl]; exact hl
         ·exact hh b hbl) hS5 (by omega)
        exact ⟨e2, s6, H6, r6, hS6, hn6, hH6⟩
      obtain ⟨e1, s1, Ha, r1, hS1, hn1, hHa, key2⟩ := key1
      simp only [h1, h2, r1, Res.bind_ok]
      simp only [] at k
      split at k
      ·rename_i e5 ps5 as5 bd5 pd5 hg5
       obtain ⟨e6, as6, bd6, hg6, hH6, hob6⟩ := hS1.getLoop hg5
       simp only [hg6]
       obtain ⟨⟨x2, e2', s2'⟩, h4, k⟩ := Res.bind_eq_ok.1 k
       have ofOb : ∀ {e e' : Env} {ps : List Tmp} {a b a' b' : ACode} (st : LoopState) (pd : AExit), ((e = e' ∧ a = a' ∧ b = b') ∨ ∃ h : Hint, trC h a = some a' ∧ trC h b = some b' ∧ h.free ps = true ∧ (∀ t, h.spec t = false → e.at t = e'.at t) ∧ ∀ d cs, (inL d h.boxes = true ∨ h.deep d = true) → e'.at d ≠ .agg cs) → ObjR (some (.loop e ps a b st pd)) (some (.loop e' ps a' b' st pd)) := by
        intro e e' ps a b a' b' st pd hx
        rcases hx with ⟨rfl, rfl, rfl⟩ | ⟨h, ha, hb, hps, he, hn⟩
        ·exact .refl _
        ·exact .loop ha hb hps he hn
       obtain ⟨e2, s2, Hb, r2, hS2, hn2, hHb⟩ := key2 h4 (hS1.put2 hH6 (ofOb .busy pd5 hob6)) rfl (fun _ _ => rfl) rfl
       simp only [r2, Res.bind_ok]
       simp only [] at k
       have hn2 : s1.next ≤ s2.next := hn2
       split at k
       ·rename_i e7 ps7 as7 bd7 s7 pd7 hg7
        obtain ⟨e8, as8, bd8, hg8, hH8, hob8⟩ := hS2.getLoop hg7
        simp only [hg8]
        cases x2 with
        | normal => cases k; exact ⟨_, Hb, rfl, hS2.put2 hH8 (ofOb _ _ hob8), Nat.le_trans hn1 hn2, fun id hi => (hHb id hi).trans (hHa id hi)⟩
        | exit j => cases k; exact ⟨_, Hb, rfl, hS2.put2 hH8 (ofOb _ _ hob8), Nat.le_trans hn1 hn2, fun id hi => (hHb id hi).trans (hHa id hi)⟩
        | ret => cases k; exact ⟨_, Hb, rfl, hS2.put2 hH8 (ofOb _ _ hob8), Nat.le_trans hn1 hn2, fun id hi => (hHb id hi).trans (hHa id hi)⟩
       ·cases k
      ·cases k
     ·cases k
theorem sim_refl (st : St) (h : st.ro ≤ st.next) : Sim (fun _ => none) st st := ⟨rfl, rfl, h, fun id c hc => (by cases hc), fun _ _ => .refl _⟩
theorem run_of_hide {Γ : Funs} {hs : List (Nat × Hint)} {n : Nat} {t : Task} {st st' : St} {v : Value} (hro : st.ro ≤ st.next) (k : runT (hide Γ hs) n t st = .ok (v, st')) : ∃ st2, runT Γ n t st = .ok (v, st2) ∧ st2.next = st'.next := by
 obtain ⟨s2, H2, r, hS, _⟩ := (run_hide Γ hs n).go k (sim_refl st hro)
 exact ⟨s2, r, hS.next⟩
end Go.AM
set_option linter.unusedVariables false
namespace Go.AM
abbrev P (b o : Nat) : Value := .pointer (some ⟨b, o, none⟩)
def bstr (l : List UInt8) : ByteArray := ⟨l.toArray⟩
def gd (v : Value) (b : Bool) : Res Bool := match v with | .bool c => .ok (c == b) | .chan (some _) => .ok false | _ => .err "guard"
def sG (g : Value) (b : Bool) (x : Res (Value × St)) (st : St) : Res (Value × St) := gd g b >>= fun c => bif c then x else .ok (skipped, st)
def sGo (g : Value) (b : Bool) (x : Res (Value × St)) (st : St) : Res (Value × St) := gd g b >>= fun c => bif c then (x >>= fun q => Res.need true "order" >>= fun _ => .ok q) else .ok (skipped, st)
def sPick (c a b : Value) (st : St) : Res (Value × St) :=
 match c with
 | .bool t => .ok (if t then a else b, st)
 | _ => .err "pick"
def sNew (z : List Value) (st : St) : Res (Value × St) := .ok (.pointer (some ⟨st.next, 0, none⟩), st.alloc (.cells z))
def sBox (x : Value) (st : St) : Res (Value × St) := do
 Res.need (!isTuple x) "box: nothing"
 pure (.pointer (some ⟨st.next, 0, none⟩), st.alloc (.cells x.cells.toList))
def sBuild (z : List Value) (ps : List (Nat × Nat × Value)) (st : St) : Res (Value × St) := do
 let cs ← fillL z ps
 pure (.agg cs.toArray, st)
def sLit (s n : Nat) (z : List Value) (ps : List (Nat × Nat × Value)) (st : St) : Res (Value × St) := do
 let cs ← fillL z ps
 pure (.slice (some ⟨st.next, 0, none⟩) n s, st.alloc (.cells cs))
def sLoad (n : Option Nat) (a : Value) (st : St) : Res (Value × St) := do
 let (b, o) ← asPtr a
 match n with
 | none => do
   let v ← st.load1 b o
   pure (v, st)
 | some n => do
   let l ← st.loadN b o n
   pure (.agg l.toArray, st)
def sStore (n : Nat) (a x : Value) (st : St) : Res (Value × St) := do
 let (b, o) ← asPtr a
 Res.need (!isTuple x) "store: nothing"
 Res.need (x.cells.size = n) "store: size"
 let st' ← st.storeN b o x.cells.toList
 pure (nothing, st')
def sNilc (x : Value) (st : St) : Res (Value × St) :=
 match x with
 | .pointer (some a) => .ok (.pointer (some a), st)
 | .func (.func f) p c => .ok (.func (.func f) p c, st)
 | .iface t v => .ok (.iface t v, st)
 | _ => .err "nil"
def sBin (op : BinOp) (x y : Value) (st : St) : Res (Value × St) := do
 let v ← abin op x y
 pure (v, st)
def sEq (neg : Bool) (k : EqK) (x y : Value) (st : St) : Res (Value × St) := do
 let b ← aeq k x y
 pure (.bool (if neg then !b else b), st)
def sUn (op : UnOp) (x : Value) (st : St) : Res (Value × St) := do
 let v ← aun op x
 pure (v, st)
def sConv (k : ConvK) (x : Value) (st : St) : Res (Value × St) := aconv st k x
def sOff (n : Nat) (x : Value) (st : St) : Res (Value × St) := do
 let (b, o) ← asPtr x
 pure (.pointer (some ⟨b, o + n, none⟩), st)
def sField (n : Option Nat) (o : Nat) (x : Value) (st : St) : Res (Value × St) :=
 match x with
 | .agg cs => do
   let v ← part n cs.toList o
   pure (v, st)
 | _ => .err "field"
def sIxA (s : Nat) (ln : Option Nat) (x i : Value) (st : St) : Res (Value × St) :=
 match ln, x with
 | none, .slice (some ⟨b, o, none⟩) n s' => do
   Res.need (s' = s) "another element"
   let i ← index i n
   pure (.pointer (some ⟨b, o + i * s, none⟩), st)
 | some n, .pointer (some ⟨b, o, none⟩) => do
   let i ← index i n
   pure (.pointer (some ⟨b, o + i * s, none⟩), st)
 | _, _ => .err "index"
def sIxS (x i : Value) (st : St) : Res (Value × St) :=
 match x with
 | .string t => do
   let i ← index i t.size
   let b ← Res.of t.data[i]? "index"
   pure (.int .u8 b.toNat, st)
 | _ => .err "index"
def sExtract (x : Value) (i : Nat) (st : St) : Res (Value × St) :=
 match x with
 | .tuple vs => do
   let v ← Res.of vs[i]? "extract"
   pure (v, st)
 | _ => .err "extract"
def sLen (k : LenK) (x : Value) (st : St) : Res (Value × St) :=
 match k, x with
 | LenK.str, Value.string t => .ok (goInt t.size, st)
 | LenK.slice, .slice _ n _ => .ok (goInt n, st)
 | LenK.const n, _ => .ok (goInt n, st)
 | LenK.map, .map none => .ok (goInt 0, st)
 | LenK.map, .map (some r) => do
   let es ← st.map r
   pure (goInt es.length, st)
 | _, _ => .err "len"
def sAppend (s bytes : Nat) (x y : Value) (st : St) : Res (Value × St) := aappend st s bytes x y
def sMinmax (max : Bool) (x : Value) (ys : List Value) (st : St) : Res (Value × St) := do
 let v ← minmaxL max x ys
 pure (v, st)
def St.bump (st : St) : St := st.alloc .dead
def sLbox (x : Value) (st : St) : Res (Value × St) := do
 Res.need (!isTuple x) "box: nothing"
 pure (.agg x.cells, st.bump)
def sLnew (z : List Value) (st : St) : Res (Value × St) := .ok (.agg z.toArray, st.bump)
def sLref (x : Value) (st : St) : Res (Value × St) :=
 match x with
 | .agg _ => .ok (nothing, st)
 | _ => .err "no box"
def sUpd (n k : Nat) (d x : Value) (st : St) : Res (Value × St) :=
 match d with
 | .agg cs => do
   Res.need (!isTuple x) "store: nothing"
   Res.need (x.cells.size = n) "store: size"
   Res.need (k + n ≤ cs.size) "store: too far"
   Res.need (x.cells.toList.all cellOk) "store: no cell's value"
   pure (.agg (splice cs.toList k x.cells.toList).toArray, st)
 | _ => .err "no box"
def sCall (K : Ctx) (f : Value) (args : List Value) (st : St) : Res (Value × St) := do
 let t ← taskOf f args
 K.go t st
def sStays (snaps : List St) (base : Nat) (look : Value) (run : St → Res (Value × St)) (v : Value) : Bool :=
 (match idOf look with | some id => base ≤ id | none => false) ||
 snaps.all fun s => match run s with | .ok (u, _) => sameVal v u | .err _ => false
abbrev JT (R : Type) := List Frame → Env → St → Res R
namespace C
abbrev t (n : Nat) : Operand := .tmp n
abbrev c (v : Value) : Operand := .const v
abbrev f (n : Nat) : Operand := .func n
abbrev o (d : Nat) (x : AOp) : AOper := ⟨some d, none, x⟩
abbrev n (x : AOp) : AOper := ⟨none, none, x⟩
abbrev g (d : Nat) (b : Bool) (u : Nat) (x : AOp) : AOper := ⟨some d, some (u, b), x⟩
abbrev h (b : Bool) (u : Nat) (x : AOp) : AOper := ⟨none, some (u, b), x⟩
abbrev d (i k : Nat) (w : Bool) (x : AOper) : DOper := ⟨i, k, w, x⟩
abbrev s (a b : ACode) : ACode := .seq a b
abbrev i (x : Int) : Value := .int .i64 x
abbrev u (x : Int) : Value := .int .u8 x
end C
end Go.AM
set_option linter.unusedVariables false
namespace Go.AM
structure Ext (st st' : St) : Prop where
 next : st.next ≤ st'.next
 ro : st'.ro = st.ro
 get : ∀ id, id < st.next → st'.get id = st.get id
theorem Ext.refl (st : St) : Ext st st := ⟨Nat.le_refl _, rfl, fun _ _ => rfl⟩
theorem Ext.trans {a b c : St} (h : Ext a b) (k : Ext b c) : Ext a c :=
 ⟨Nat.le_trans h.next k.next, k.ro.trans h.ro, fun id hi => (k.get id (Nat.lt_of_lt_of_le hi h.next)).trans (h.get id hi)⟩
theorem eqOf {α : Sort _} {a b : α} (h : a = b ∧ True) : a = b := h.1
theorem get_alloc (st : St) (o : AObj) (id : Nat) : (st.alloc o).get id = if id = st.next then some o else st.get id := by rw [St.get_alloc]; rfl
theorem get_put (st : St) (i : Nat) (o : AObj) (id : Nat) : (st.put i o).get id = if id = i then some o else st.get id := by rw [St.get_put]; rfl
@[simp] theorem next_alloc (st : St) (o : AObj) : (st.alloc o).next = st.next + 1 := eqOf ⟨rfl, trivial⟩
@[simp] theorem next_put (st : St) (i : Nat) (o : AObj) : (st.put i o).next = st.next := eqOf ⟨rfl, trivial⟩
@[simp] theorem ro_alloc (st : St) (o : AObj) : (st.alloc o).ro = st.ro := eqOf ⟨rfl, trivial⟩
@[simp] theorem ro_put (st : St) (i : Nat) (o : AObj) : (st.put i o).ro = st.ro := eqOf ⟨rfl, trivial⟩
theorem Ext.alloc {a b : St} (h : Ext a b) (o : AObj) : Ext a (b.alloc o) :=
 ⟨Nat.le_succ_of_le h.next, h.ro, fun id hi => by rw [get_alloc, if_neg (by have := h.next; omega)]; exact h.get id hi⟩
theorem Ext.put {a b : St} (h : Ext a b) {i : Nat} (hi : a.next ≤ i) (o : AObj) : Ext a (b.put i o) :=
 ⟨h.next, h.ro, fun id hd => by rw [get_put, if_neg (by omega)]; exact h.get id hd⟩
abbrev I (n : Int) : Value := .int .i64 n
abbrev U (n : Int) : Value := .int .u8 n
abbrev B (b : Bool) : Value := .bool b
abbrev Sl (b o n s : Nat) : Value := .slice (some ⟨b, o, none⟩) n s
section
variable {st : St}
@[simp] theorem cells_eq {b : Nat} {xs : List Value} (h : st.get b = some (.cells xs)) : st.cells b = .ok xs := by simp [St.cells, h]
theorem load1_eq {b o : Nat} {xs : List Value} {v : Value} (h : st.get b = some (.cells xs)) (hv : xs[o]? = some v) : st.load1 b o = .ok v := by simp [St.load1, cells_eq h, hv]
@[simp] theorem gd_skip (b : Bool) : gd skipped b = .ok false := rfl
@[simp] theorem gd_eq (c b : Bool) : gd (.bool c) b = .ok (c == b) := rfl
@[congr] theorem bind_congr' {α β : Type} {x x' : Res α} {f : α → Res β} (h : x = x') : (x >>= f) = (x' >>= f) := by rw [h]
@[congr] theorem thn_congr {α β : Type} {st : St} {x x' : Res α} {f : α → Res β} (h : x = x') : Res.thn st x f = Res.thn st x' f := by rw [h]
@[simp] theorem thn_ok {α β : Type} (st : St) (a : α) (f : α → Res β) : Res.thn st (.ok a) f = f a := by rw [thn_eq]; rfl
@[simp] theorem thn_err {α β : Type} (st : St) (s : String) (f : α → Res β) : Res.thn st (.err s) f = .err s := by rw [thn_eq]; rfl
@[congr] theorem ok_congr {α : Type} {x x' : Res α} {Q : α → Prop} (h : x = x') : Ok x Q = Ok x' Q := by rw [h]
@[congr] theorem condX_congr {R : Type} {v v' : Value} {a b : Res R} (h : v = v') : condX v a b = condX v' a b := by rw [h]
@[congr] theorem cond_congr' {α : Type} {c c' : Bool} {a b : α} (h : c = c') : (bif c then a else b) = bif c' then a else b := by rw [h]
@[simp] theorem thn_bind {α β γ : Type} (st : St) (x : Res α) (g : α → Res β) (f : β → Res γ) : Res.thn st (x >>= g) f = Res.thn st x fun a => g a >>= f := by
  simp only [thn_eq]; cases x <;> rfl
theorem Ok.thn {α β : Type} {st : St} {x : Res α} {f : α → Res β} {Q : α → Prop} {R : β → Prop} (h : Ok x Q) (k : ∀ a, Q a → Ok (f a) R) : Ok (Res.thn st x f) R := by rw [thn_eq]; exact h.bind k
theorem Ok.call {v : Value} {st st0 : St} {x : Res (Value × St)} {R : Type} {f : Value × St → Res R} {Q : R → Prop} (h : Ok x fun r => r.1 = v ∧ Ext st r.2) (k : ∀ s, Ext st s → Ok (f (v, s)) Q) : Ok (Res.thn st0 x f) Q :=
 h.thn fun ⟨r1, r2⟩ ⟨h1, h2⟩ => by
  simp only at h1 h2
  subst h1
  exact k r2 h2
@[simp] theorem sG_eq (c b : Bool) (x : Res (Value × St)) (st : St) : sG (.bool c) b x st = bif c == b then x else .ok (skipped, st) := rfl
@[simp] theorem sG_skip (b : Bool) (x : Res (Value × St)) (st : St) : sG skipped b x st = .ok (skipped, st) := rfl
@[simp] theorem sGo_eq (c b : Bool) (x : Res (Value × St)) (st : St) : sGo (.bool c) b x st = bif c == b then x else .ok (skipped, st) := by
  show (bif c == b then (x >>= fun q => (Res.ok () : Res Unit) >>= fun _ => .ok q) else .ok (skipped, st)) = _
  cases x <;> rfl
@[simp] theorem sGo_skip (b : Bool) (x : Res (Value × St)) (st : St) : sGo skipped b x st = .ok (skipped, st) := rfl
@[simp] theorem condX_eq {R : Type} (c : Bool) (a b : Res R) : condX (.bool c) a b = bif c then a else b := rfl
@[simp] theorem sNew_eq (z : List Value) : sNew z st = .ok (P st.next 0, st.alloc (.cells z)) := rfl
@[simp] theorem sBox_agg (cs : Array Value) : sBox (.agg cs) st = .ok (P st.next 0, st.alloc (.cells cs.toList)) := rfl
@[simp] theorem sBox_int (k : IntKind) (n : Int) : sBox (.int k n) st = .ok (P st.next 0, st.alloc (.cells [.int k n])) := rfl
@[simp] theorem sBox_bool (b : Bool) : sBox (.bool b) st = .ok (P st.next 0, st.alloc (.cells [.bool b])) := rfl
@[simp] theorem sBox_string (t : ByteArray) : sBox (.string t) st = .ok (P st.next 0, st.alloc (.cells [.string t])) := rfl
@[simp] theorem sBox_slice (a : Option Addr) (n c : Nat) : sBox (.slice a n c) st = .ok (P st.next 0, st.alloc (.cells [.slice a n c])) := rfl
@[simp] theorem sBox_ptr (a : Option Addr) : sBox (.pointer a) st = .ok (P st.next 0, st.alloc (.cells [.pointer a])) := rfl
@[simp] theorem sBox_map (a : Option Nat) : sBox (.map a) st = .ok (P st.next 0, st.alloc (.cells [.map a])) := rfl
@[simp] theorem sBox_func (f : Fn) (a c : Array Value) : sBox (.func f a c) st = .ok (P st.next 0, st.alloc (.cells [.func f a c])) := rfl
@[simp] theorem sOff_eq (n b o : Nat) : sOff n (P b o) st = .ok (P b (o + n), st) := rfl
@[simp] theorem sLoad1 (b o : Nat) : sLoad none (P b o) st = (st.load1 b o >>= fun v => .ok (v, st)) := rfl
@[simp] theorem sLoadN (n b o : Nat) : sLoad (some n) (P b o) st = (st.loadN b o n >>= fun l => .ok (.agg l.toArray, st)) := rfl
@[simp] theorem sStore_agg (n b o : Nat) (cs : Array Value) : sStore n (P b o) (.agg cs) st = (Res.need (cs.size = n) "store: size" >>= fun _ => st.storeN b o cs.toList >>= fun s => .ok (nothing, s)) := rfl
@[simp] theorem sStore_int (n b o : Nat) (k : IntKind) (x : Int) : sStore n (P b o) (.int k x) st = (Res.need (1 = n) "store: size" >>= fun _ => st.storeN b o [.int k x] >>= fun s => .ok (nothing, s)) := rfl
@[simp] theorem sStore_bool (n b o : Nat) (x : Bool) : sStore n (P b o) (.bool x) st = (Res.need (1 = n) "store: size" >>= fun _ => st.storeN b o [.bool x] >>= fun s => .ok (nothing, s)) := rfl
@[simp] theorem sStore_string (n b o : Nat) (x : ByteArray) : sStore n (P b o) (.string x) st = (Res.need (1 = n) "store: size" >>= fun _ => st.storeN b o [.string x] >>= fun s => .ok (nothing, s)) := rfl
@[simp] theorem sStore_slice (n b o : Nat) (a : Option Addr) (m c : Nat) : sStore n (P b o) (.slice a m c) st = (Res.need (1 = n) "store: size" >>= fun _ => st.storeN b o [.slice a m c] >>= fun s => .ok (nothing, s)) := rfl
@[simp] theorem sStore_ptr (n b o : Nat) (a : Option Addr) : sStore n (P b o) (.pointer a) st = (Res.need (1 = n) "store: size" >>= fun _ => st.storeN b o [.pointer a] >>= fun s => .ok (nothing, s)) := rfl
@[simp] theorem sStore_map (n b o : Nat) (a : Option Nat) : sStore n (P b o) (.map a) st = (Res.need (1 = n) "store: size" >>= fun _ => st.storeN b o [.map a] >>= fun s => .ok (nothing, s)) := rfl
@[simp] theorem sStore_func (n b o : Nat) (f : Fn) (a c : Array Value) : sStore n (P b o) (.func f a c) st = (Res.need (1 = n) "store: size" >>= fun _ => st.storeN b o [.func f a c] >>= fun s => .ok (nothing, s)) := rfl
@[simp] theorem sPick_eq (c : Bool) (a b : Value) : sPick (.bool c) a b st = .ok (if c then a else b, st) := rfl
@[simp] theorem sUn_not (b : Bool) : sUn .not (.bool b) st = .ok (.bool !b, st) := rfl
@[simp] theorem sLen_slice (a : Option Addr) (n c : Nat) : sLen .slice (.slice a n c) st = .ok (goInt n, st) := rfl
@[simp] theorem sLen_str (t : ByteArray) : sLen .str (.string t) st = .ok (goInt t.size, st) := rfl
@[simp] theorem sExtract_eq (vs : Array Value) (i : Nat) : sExtract (.tuple vs) i st = (Res.of vs[i]? "extract" >>= fun v => .ok (v, st)) := rfl
@[simp] theorem sEql (k : IntKind) (x y : Int) : sBin .eql (.int k x) (.int k y) st = .ok (.bool (decide (x = y)), st) := by simp [sBin, abin, aint]; rfl
@[simp] theorem sNeq (k : IntKind) (x y : Int) : sBin .neq (.int k x) (.int k y) st = .ok (.bool (!decide (x = y)), st) := by simp [sBin, abin, aint]; rfl
@[simp] theorem sAdd (k : IntKind) (x y : Int) : sBin .add (.int k x) (.int k y) st = .ok (.int k (k.wrap (x + y)), st) := by simp [sBin, abin, aint]
@[simp] theorem sMul (k : IntKind) (x y : Int) : sBin .mul (.int k x) (.int k y) st = .ok (.int k (k.wrap (x * y)), st) := by simp [sBin, abin, aint]
@[simp] theorem sRem (k : IntKind) (x y : Int) (h : y ≠ 0) : sBin .rem (.int k x) (.int k y) st = .ok (.int k (x.tmod y), st) := by simp [sBin, abin, aint, h]
@[simp] theorem sConv_int (k k' : IntKind) (n : Int) : sConv (.int k) (.int k' n) st = .ok (.int k (k.wrap n), st) := rfl
end
@[simp] theorem next_bump (st : St) : st.bump.next = st.next + 1 := eqOf ⟨rfl, trivial⟩
@[simp] theorem ro_bump (st : St) : st.bump.ro = st.ro := eqOf ⟨rfl, trivial⟩
@[simp] theorem get_bump (st : St) (id : Nat) : st.bump.get id = if id = st.next then some .dead else st.get id := get_alloc st .dead id
theorem Ext.bump {a b : St} (h : Ext a b) : Ext a b.bump := h.alloc _
@[simp] theorem ext_alloc {a b : St} {o : AObj} (h : a.next ≤ b.next) : Ext a (b.alloc o) ↔ Ext a b :=
  ⟨fun k => ⟨h, k.ro, fun id hi => by rw [← k.get id hi, get_alloc, if_neg (by omega)]⟩, fun k => k.alloc o⟩
@[simp] theorem ext_bump {a b : St} (h : a.next ≤ b.next) : Ext a b.bump ↔ Ext a b := ext_alloc h
@[simp] theorem sLbox_agg (cs : Array Value) (st : St) : sLbox (.agg cs) st = .ok (.agg cs, st.bump) := rfl
@[simp] theorem sLbox_int (k : IntKind) (n : Int) (st : St) : sLbox (.int k n) st = .ok (.agg #[.int k n], st.bump) := rfl
@[simp] theorem sLbox_bool (b : Bool) (st : St) : sLbox (.bool b) st = .ok (.agg #[.bool b], st.bump) := rfl
@[simp] theorem sLbox_string (t : ByteArray) (st : St) : sLbox (.string t) st = .ok (.agg #[.string t], st.bump) := rfl
@[simp] theorem sLbox_slice (a : Option Addr) (n c : Nat) (st : St) : sLbox (.slice a n c) st = .ok (.agg #[.slice a n c], st.bump) := rfl
@[simp] theorem sLbox_map (a : Option Nat) (st : St) : sLbox (.map a) st = .ok (.agg #[.map a], st.bump) := rfl
@[simp] theorem sLbox_ptr (a : Option Addr) (st : St) : sLbox (.pointer a) st = .ok (.agg #[.pointer a], st.bump) := rfl
@[simp] theorem sLnew_eq (z : List Value) (st : St) : sLnew z st = .ok (.agg z.toArray, st.bump) := rfl
@[simp] theorem sLref_agg (cs : Array Value) (st : St) : sLref (.agg cs) st = .ok (nothing, st) := rfl
@[simp] theorem sField1 (k : Nat) (l : List Value) (st : St) : sField none k (.agg l.toArray) st = (Res.of l[k]? "part: none" >>= fun v => .ok (v, st)) := by simp [sField, part]
@[simp] theorem sFieldN (n k : Nat) (l : List Value) (st : St) : sField (some n) k (.agg l.toArray) st = (Res.need (decide (k + n ≤ l.length)) "part: too far" >>= fun _ => .ok (.agg ((l.drop k).take n).toArray, st)) := by
  simp [sField, part]
  cases Res.need (decide (k + n ≤ l.length)) "part: too far" <;> rfl
@[simp] theorem isTuple_int (k : IntKind) (n : Int) : isTuple (.int k n) = false := rfl
@[simp] theorem isTuple_bool (b : Bool) : isTuple (.bool b) = false := rfl
@[simp] theorem isTuple_string (t : ByteArray) : isTuple (.string t) = false := rfl
@[simp] theorem isTuple_slice (a : Option Addr) (n c : Nat) : isTuple (.slice a n c) = false := rfl
@[simp] theorem isTuple_ptr (a : Option Addr) : isTuple (.pointer a) = false := rfl
@[simp] theorem isTuple_map (a : Option Nat) : isTuple (.map a) = false := rfl
@[simp] theorem isTuple_agg (cs : Array Value) : isTuple (.agg cs) = false := rfl
@[simp] theorem isTuple_func (f : Fn) (a c : Array Value) : isTuple (.func f a c) = false := rfl
section
variable (n k : Nat) (l : List Value) (st : St)
theorem sUpd_one {x : Value} (ht : isTuple x = false) (hc : x.cells = #[x]) (ho : cellOk x = true) : sUpd n k (.agg l.toArray) x st = (Res.need (n = 1) "store: size" >>= fun _ => Res.need (k + n ≤ l.length) "store: too far" >>= fun _ => .ok (.agg (splice l k [x]).toArray, st)) := by
 simp only [sUpd, ht, hc]
 by_cases h : n = 1
 ·subst h; simp [ho, Res.need]
 ·have : ¬ 1 = n := fun e => h e.symm
  simp [Res.need, h, this]
@[simp] theorem sUpd_agg (m : List Value) : sUpd n k (.agg l.toArray) (.agg m.toArray) st = (Res.need (m.length = n) "store: size" >>= fun _ => Res.need (k + n ≤ l.length) "store: too far" >>= fun _ => Res.need (m.all cellOk) "store: no cell's value" >>= fun _ => .ok (.agg (splice l k m).toArray, st)) := by
  have hc : (Value.agg m.toArray).cells = m.toArray := rfl
  simp only [sUpd, isTuple, hc, Bool.not_false, Res.need_true, Res.bind_ok, List.size_toArray]; rfl
@[simp] theorem sUpd_int (c : IntKind) (x : Int) : sUpd n k (.agg l.toArray) (.int c x) st = (Res.need (n = 1) "store: size" >>= fun _ => Res.need (k + n ≤ l.length) "store: too far" >>= fun _ => .ok (.agg (splice l k [.int c x]).toArray, st)) := sUpd_one n k l st rfl rfl rfl
@[simp] theorem sUpd_bool (x : Bool) : sUpd n k (.agg l.toArray) (.bool x) st = (Res.need (n = 1) "store: size" >>= fun _ => Res.need (k + n ≤ l.length) "store: too far" >>= fun _ => .ok (.agg (splice l k [.bool x]).toArray, st)) := sUpd_one n k l st rfl rfl rfl
@[simp] theorem sUpd_string (x : ByteArray) : sUpd n k (.agg l.toArray) (.string x) st = (Res.need (n = 1) "store: size" >>= fun _ => Res.need (k + n ≤ l.length) "store: too far" >>= fun _ => .ok (.agg (splice l k [.string x]).toArray, st)) := sUpd_one n k l st rfl rfl rfl
@[simp] theorem sUpd_slice (a : Option Addr) (m c : Nat) : sUpd n k (.agg l.toArray) (.slice a m c) st = (Res.need (n = 1) "store: size" >>= fun _ => Res.need (k + n ≤ l.length) "store: too far" >>= fun _ => .ok (.agg (splice l k [.slice a m c]).toArray, st)) := sUpd_one n k l st rfl rfl rfl
@[simp] theorem sUpd_map (a : Option Nat) : sUpd n k (.agg l.toArray) (.map a) st = (Res.need (n = 1) "store: size" >>= fun _ => Res.need (k + n ≤ l.length) "store: too far" >>= fun _ => .ok (.agg (splice l k [.map a]).toArray, st)) := sUpd_one n k l st rfl rfl rfl
@[simp] theorem sUpd_ptr (a : Option Addr) : sUpd n k (.agg l.toArray) (.pointer a) st = (Res.need (n = 1) "store: size" >>= fun _ => Res.need (k + n ≤ l.length) "store: too far" >>= fun _ => .ok (.agg (splice l k [.pointer a]).toArray, st)) := sUpd_one n k l st rfl rfl rfl
end
theorem load1_def (st : St) (b o : Nat) : st.load1 b o = (match st.get b with | some (.cells xs) => Res.of xs[o]? "no such cell" | _ => .err "no such cells") := by
 unfold St.load1 St.cells
 split <;> simp_all
theorem loadN_def (st : St) (b o n : Nat) : st.loadN b o n = (match st.get b with | some (.cells xs) => (Res.need (o + n ≤ xs.length) "cells: too far" >>= fun _ => .ok ((xs.drop o).take n)) | _ => .err "no such cells") := by
 unfold St.loadN St.cells
 split <;> simp_all
theorem storeN_def (st : St) (b o : Nat) (vs : List Value) : st.storeN b o vs = (match st.get b with
 | some (.cells xs) => (Res.need (st.ro ≤ b) "store: what came in" >>= fun _ => Res.need (o + vs.length ≤ xs.length) "store: too far" >>= fun _ => Res.need (vs.all cellOk) "store: no cell's value" >>= fun _ => .ok (st.put b (.cells (splice xs o vs))))
 | _ => .err "no such cells") := by
 unfold St.storeN St.cells
 split <;> simp_all
def Bel (n : Nat) (id : Nat) : Prop := id < n
def Rng (a b : Nat) (id : Nat) : Prop := a ≤ id ∧ id < b
def Agree (A : Nat → Prop) (st st' : St) : Prop := ∀ id, A id → st'.get id = st.get id
theorem Agree.refl (A : Nat → Prop) (st : St) : Agree A st st := fun _ _ => rfl
theorem Agree.trans {A : Nat → Prop} {a b c : St} (h : Agree A a b) (k : Agree A b c) : Agree A a c := fun id hi => (k id hi).trans (h id hi)
theorem Agree.alloc {A : Nat → Prop} {a b : St} (h : Agree A a b) (o : AObj) (hn : ¬ A b.next) : Agree A a (b.alloc o) := fun id hi => by
 rw [get_alloc, if_neg (fun (e : id = b.next) => hn (e ▸ hi))]; exact h id hi
theorem Agree.put {A : Nat → Prop} {a b : St} (h : Agree A a b) {i : Nat} (hn : ¬ A i) (o : AObj) : Agree A a (b.put i o) := fun id hi => by
 rw [get_put, if_neg (fun (e : id = i) => hn (e ▸ hi))]; exact h id hi
def RSl {α : Type} (A : Nat → Prop) (st : St) (s : Nat) (R : List Value → α → Prop) (v : Value) (l : List α) : Prop :=
 (l = [] ∧ ∃ c, v = .slice none 0 c) ∨
 ∃ b o xs, v = Sl b o l.length s ∧ A b ∧ st.get b = some (.cells xs) ∧ o + l.length * s ≤ xs.length ∧ ∀ i x, l[i]? = some x → R ((xs.drop (o + i * s)).take s) x
theorem RSl.nil {α : Type} (A : Nat → Prop) (st : St) (s : Nat) (R : List Value → α → Prop) (c : Nat) : RSl A st s R (.slice none 0 c) [] := .inl ⟨rfl, c, rfl⟩
theorem RSl.mono {α : Type} {A A' : Nat → Prop} {st st' : St} {s : Nat} {R R' : List Value → α → Prop} {v : Value} {l : List α} (h : RSl A st s R v l) (hA : ∀ id, A id → A' id) (hE : Agree A st st') (hR : ∀ cs x, x ∈ l → R cs x → R' cs x) : RSl A' st' s R' v l := by
 rcases h with h | ⟨b, o, xs, h1, h2, h3, h4, h5⟩
 ·exact .inl h
 ·exact .inr ⟨b, o, xs, h1, hA b h2, by rw [hE b h2]; exact h3, h4, fun i x hx => hR _ _ (List.mem_of_getElem? hx) (h5 i x hx)⟩
theorem RSl.len {α : Type} {A : Nat → Prop} {st : St} {s : Nat} {R : List Value → α → Prop} {v : Value} {l : List α} (h : RSl A st s R v l) (st' : St) : sLen .slice v st' = .ok (I l.length, st') := by
 rcases h with ⟨rfl, c, rfl⟩ | ⟨b, o, xs, rfl, _⟩
 ·rfl
 ·rfl
theorem RSl.cell {α : Type} {A : Nat → Prop} {st : St} {s : Nat} {R : List Value → α → Prop} {v : Value} {l : List α} (h : RSl A st s R v l) : cellOk v = true := by
 rcases h with ⟨rfl, c, rfl⟩ | ⟨b, o, xs, rfl, _⟩ <;> rfl
theorem RSl.at {α : Type} {A : Nat → Prop} {st : St} {s : Nat} {R : List Value → α → Prop} {v : Value} {l : List α} (h : RSl A st s R v l) {i : Nat} {x : α} (hx : l[i]? = some x) :
 ∃ b o cs, (∀ st', sIxA s none v (I i) st' = .ok (P b o, st')) ∧ (∀ st', Agree A st st' → st'.loadN b o s = .ok cs) ∧ R cs x ∧ cs.length = s ∧ A b ∧
   (∀ st' k y, Agree A st st' → cs[k]? = some y → st'.load1 b (o + k) = .ok y) := by
 have hi : i < l.length := (List.getElem?_eq_some_iff.1 hx).1
 rcases h with ⟨rfl, c, rfl⟩ | ⟨b, o, xs, rfl, h2, h3, h4, h5⟩
 ·simp at hx
 ·have hle : o + i * s + s ≤ xs.length := by
   have : i * s + s ≤ l.length * s := by rw [← Nat.succ_mul]; exact Nat.mul_le_mul_right s hi
   omega
  have hlen : ((xs.drop (o + i * s)).take s).length = s := by rw [List.length_take, List.length_drop]; omega
  refine ⟨b, o + i * s, _, fun st' => ?_, fun st' hE => ?_, h5 i x hx, hlen, h2, fun st' k y hE hy => ?_⟩
  ·simp [sIxA, index, Res.need, hi]
  ·rw [loadN_def, hE b h2, h3]
   simp [Res.need, hle]
  ·have hk : k < s := by
    have := (List.getElem?_eq_some_iff.1 hy).1
    omega
   rw [load1_def, hE b h2, h3]
   simp only []
   have : xs[o + i * s + k]? = some y := by
    rw [List.getElem?_take, if_pos hk, List.getElem?_drop] at hy
    exact hy
   rw [this]; rfl
theorem RSl.at1 {α : Type} {A : Nat → Prop} {st : St} {f : α → Value} {v : Value} {l : List α} (h : RSl A st 1 (fun cs x => cs = [f x]) v l) {i : Nat} {x : α} (hx : l[i]? = some x) :
 ∃ b o, (∀ st', sIxA 1 none v (I i) st' = .ok (P b o, st')) ∧ (∀ st', Agree A st st' → st'.load1 b o = .ok (f x)) ∧ A b := by
 obtain ⟨b, o, cs, h1, _, rfl, _, h4, h5⟩ := h.at hx
 exact ⟨b, o, h1, fun st' hE => h5 st' 0 _ hE rfl, h4⟩
theorem wrap_id {n : Int} (h : -9223372036854775808 ≤ n ∧ n ≤ 9223372036854775807) : IntKind.i64.wrap n = n := Go.IntWalk.i64_in n h
attribute [simp] storeN_def get_alloc get_put ok_ok Ext.refl Nat.add_assoc
theorem need_dec {p : Prop} [Decidable p] (h : p) (s : String) : Res.need (decide p) s = .ok () := by simp [Res.need, h]
theorem Ext.roOk {st st' : St} (h : Ext st st') (k : st.ro ≤ st.next) : st'.ro ≤ st'.next := by rw [h.ro]; exact Nat.le_trans k h.next
attribute [simp] splice Value.cells
@[simp] theorem cellOk_int (k : IntKind) (n : Int) : cellOk (.int k n) = true := rfl
@[simp] theorem cellOk_bool (b : Bool) : cellOk (.bool b) = true := rfl
@[simp] theorem cellOk_string (t : ByteArray) : cellOk (.string t) = true := rfl
@[simp] theorem cellOk_slice (a : Option Addr) (n c : Nat) : cellOk (.slice a n c) = true := rfl
@[simp] theorem cellOk_ptr (a : Option Addr) : cellOk (.pointer a) = true := rfl
@[simp] theorem cellOk_map (a : Option Nat) : cellOk (.map a) = true := rfl
@[simp] theorem cellOk_func (f : Fn) (a c : Array Value) : cellOk (.func f a c) = true := rfl
@[simp] theorem Res.bind_assoc' {α β γ : Type} (x : Res α) (f : α → Res β) (g : β → Res γ) : ((x >>= f) >>= g) = (x >>= fun a => f a >>= g) := by cases x <;> rfl
@[simp] theorem sEq_bools (a b : Bool) (s : St) : sEq false .bools (.bool a) (.bool b) s = .ok (.bool (a == b), s) := by cases a <;> cases b <;> rfl
@[simp] theorem sNeq_bools (a b : Bool) (s : St) : sEq true .bools (.bool a) (.bool b) s = .ok (.bool (a != b), s) := by cases a <;> cases b <;> rfl
@[simp] theorem sameVal_int (k : IntKind) (n : Int) : sameVal (.int k n) (.int k n) = true := by simp [sameVal, sameOne, sameCell]
@[simp] theorem sStays_same {snaps : List St} {base : Nat} {look v : Value} (h : sameVal v v = true) : sStays snaps base look (fun s => .ok (v, s)) v = true := by
  unfold sStays
  rw [Bool.or_eq_true]
  exact .inr (List.all_eq_true.2 fun s _ => h)
def Own (n0 : Nat) (st : St) (s : Nat) (v : Value) (cs : List Value) : Prop :=
 (cs = [] ∧ ∃ c, v = .slice none 0 c) ∨ ∃ b n, v = Sl b 0 n s ∧ cs.length = n * s ∧ st.get b = some (.cells cs) ∧ n0 ≤ b ∧ b < st.next
theorem Own.nil (n0 : Nat) (st : St) (s c : Nat) : Own n0 st s (.slice none 0 c) [] := .inl ⟨rfl, c, rfl⟩
theorem Own.mono {n0 : Nat} {st st' : St} {s : Nat} {v : Value} {cs : List Value} (h : Own n0 st s v cs) (hE : Ext st st') : Own n0 st' s v cs := by
 rcases h with h | ⟨b, n, h1, h2, h3, h4, h5⟩
 ·exact .inl h
 ·exact .inr ⟨b, n, h1, h2, by rw [hE.get b h5]; exact h3, h4, Nat.lt_of_lt_of_le h5 hE.next⟩
theorem Own.cell {n0 : Nat} {st : St} {s : Nat} {v : Value} {cs : List Value} (h : Own n0 st s v cs) : cellOk v = true := by
 rcases h with ⟨_, c, rfl⟩ | ⟨b, n, rfl, _⟩ <;> rfl
theorem Own.isTuple {n0 : Nat} {st : St} {s : Nat} {v : Value} {cs : List Value} (h : Own n0 st s v cs) : isTuple v = false := by
 rcases h with ⟨_, c, rfl⟩ | ⟨b, n, rfl, _⟩ <;> rfl
theorem Own.len {n0 : Nat} {st : St} {s : Nat} {v : Value} {cs : List Value} {m : Nat} (h : Own n0 st s v cs) (hs : 0 < s) (hm : cs.length = m * s) (st' : St) : sLen .slice v st' = .ok (I m, st') := by
 rcases h with ⟨rfl, c, rfl⟩ | ⟨b, n, rfl, h2, _⟩
 ·have : m = 0 := by
   rcases Nat.mul_eq_zero.1 hm.symm with h | h
   ·exact h
   ·omega
  subst this; rfl
 ·have : n = m := Nat.eq_of_mul_eq_mul_right hs (h2.symm.trans hm)
  subst this; rfl
theorem Own.app {st0 st : St} {s bytes : Nat} {v y : Value} {cs new : List Value} {m : Nat} (hE : Ext st0 st) (hro : st0.ro ≤ st0.next) (h : Own st0.next st s v cs) (hs : 0 < s) (hl : lenL y = .ok m) (hf : firstL st s m y = .ok new) (hn : new.length = m * s) (hc : new.all cellOk = true) (hb : (cs.length + m) * bytes ≤ 2 ^ 46) :
 ∃ v' st', sAppend s bytes v y st = .ok (v', st') ∧ Own st0.next st' s v' (cs ++ new) ∧ Ext st0 st' ∧ (∀ id, id < st.next → (∀ o n c, v ≠ .slice (some ⟨id, o, none⟩) n c) → st'.get id = st.get id) ∧ st.next ≤ st'.next := by
 have hneed : ∀ {b : Bool} {t : String}, b = true → Res.need b t = .ok () := fun h => by subst h; rfl
 by_cases hm : m = 0
 ·subst hm
  have hnil : new = [] := by cases new with | nil => rfl | cons a l => simp at hn
  subst hnil
  refine ⟨v, st, ?_, by simpa using h, hE, fun _ _ _ => rfl, Nat.le_refl _⟩
  rcases h with ⟨_, c, rfl⟩ | ⟨b, n, rfl, _⟩
  ·simp only [sAppend, aappend, hl, hf, Res.bind_ok, hneed (decide_eq_true hn)]; rfl
  ·simp only [sAppend, aappend, hl, hf, Res.bind_ok, hneed (decide_eq_true hn)]; rfl
 ·rcases h with ⟨rfl, c, rfl⟩ | ⟨b, n, rfl, h2, h3, h4, h5⟩
  ·refine ⟨Sl st.next 0 m s, st.alloc (.cells new), ?_, .inr ⟨st.next, m, rfl, by simpa using hn, by rw [get_alloc, if_pos rfl]; simp, hE.next, Nat.lt_succ_self _⟩, hE.alloc _, fun id hi _ => by rw [get_alloc, if_neg (Nat.ne_of_lt hi)], Nat.le_succ _⟩
   have hbb : (0 + m) * bytes ≤ mostBytes := by simpa [mostBytes] using hb
   simp only [sAppend, aappend, hl, hf, Res.bind_ok, hneed (decide_eq_true hn), if_neg hm, hneed (decide_eq_true hbb), hneed hc, hneed (decide_eq_true (rfl : 0 = 0))]
   rfl
  ·have hroB : st.ro ≤ b := by rw [hE.ro]; omega
   have hle : n ≤ cs.length := by rw [h2]; exact Nat.le_mul_of_pos_right n hs
   have hbb : (n + m) * bytes ≤ mostBytes := Nat.le_trans (Nat.mul_le_mul_right _ (by omega)) hb
   have hcells : st.cells b = .ok cs := cells_eq h3
   have hms : 0 < m * s := Nat.mul_pos (by omega) hs
   have hfull : ¬ 0 + (n + m) * s ≤ cs.length := by rw [h2, Nat.add_mul]; omega
   have hex : 0 + n * s = cs.length := by omega
   refine ⟨Sl st.next 0 (n + m) s, (st.put b .dead).alloc (.cells (cs ++ new)), ?_, .inr ⟨st.next, n + m, rfl, by rw [List.length_append, h2, hn, Nat.add_mul], by rw [get_alloc, if_pos (by rfl)], hE.next, Nat.lt_succ_self _⟩, (hE.put h4 _).alloc _, fun id hi hv => ?_, Nat.le_succ _⟩
   ·simp only [sAppend, aappend, hl, hf, Res.bind_ok, hneed (decide_eq_true hn), if_neg hm, hneed (decide_eq_true hbb), hneed hc, hneed (decide_eq_true (rfl : s = s)), hcells, hneed (decide_eq_true hroB), if_neg hfull, hneed (decide_eq_true hex), List.drop_zero]
    rfl
   ·rw [get_alloc, if_neg (by show id ≠ st.next; omega), get_put, if_neg]
    intro e
    subst e
    exact hv _ _ _ rfl
theorem Own.push {st0 st : St} {s bytes : Nat} {v : Value} {cs new : List Value} (hE : Ext st0 st) (hro : st0.ro ≤ st0.next) (h : Own st0.next st s v cs) (hs : 0 < s) (hn : new.length = s) (hc : new.all cellOk = true) (hb : (cs.length + 1) * bytes ≤ 2 ^ 46) :
 ∃ v' st', sAppend s bytes v (Sl st.next 0 1 s) (st.alloc (.cells new)) = .ok (v', st') ∧ Own st0.next st' s v' (cs ++ new) ∧ Ext st0 st' ∧ (∀ id, id < st.next → (∀ o n c, v ≠ .slice (some ⟨id, o, none⟩) n c) → st'.get id = st.get id) ∧ st.next < st'.next := by
 have hE1 : Ext st (st.alloc (.cells new)) := (Ext.refl st).alloc _
 have hg : (st.alloc (.cells new)).get st.next = some (.cells new) := by rw [get_alloc, if_pos rfl]
 obtain ⟨v', st', r, h1, h2, h3, h4⟩ := Own.app (y := Sl st.next 0 1 s) (m := 1) (new := new) (bytes := bytes) (hE.alloc (.cells new)) hro (h.mono hE1) hs rfl (by
  have h1 : Res.need (decide (s = s)) "another element" = .ok () := by simp [Res.need]
  have h2 : Res.need (decide (0 + 1 * s ≤ new.length)) "cells: too far" = .ok () := by simp [Res.need, hn]
  simp only [firstL, h1, Res.bind_ok, St.loadN, cells_eq hg, h2]
  simp [← hn]) (by rw [Nat.one_mul]; exact hn) hc hb
 exact ⟨v', st', r, h1, h2, fun id hi hv => (h3 id (Nat.lt_succ_of_lt hi) hv).trans (by rw [get_alloc, if_neg (Nat.ne_of_lt hi)]), h4⟩
theorem Own.rsl {α : Type} {n0 : Nat} {st : St} {s : Nat} {v : Value} {l : List α} {enc : α → List Value} {R : List Value → α → Prop} (h : Own n0 st s v (l.flatMap enc)) (hs : 0 < s) (he : ∀ x, (enc x).length = s) (hR : ∀ x ∈ l, R (enc x) x) : RSl (Rng n0 st.next) st s R v l := by
 have hlen : ∀ l : List α, (l.flatMap enc).length = l.length * s := by
  intro l
  induction l with
  | nil => simp
  | cons x l ih => simp only [List.flatMap_cons, List.length_append, ih, he, List.length_cons, Nat.add_mul, Nat.one_mul]; omega
 have hdrop : ∀ (l : List α) (i : Nat) (x : α), l[i]? = some x → ((l.flatMap enc).drop (i * s)).take s = enc x := by
  intro l
  induction l with
  | nil => intro i x h; simp at h
  | cons y l ih =>
    intro i x hx
    cases i with
    | zero =>
      simp at hx
      subst hx
      simp only [List.flatMap_cons, Nat.zero_mul, List.drop_zero]
      rw [← he y, List.take_left']
      rfl
    | succ i =>
      simp only [List.getElem?_cons_succ] at hx
      simp only [List.flatMap_cons]
      have : (i + 1) * s = (enc y).length + i * s := by rw [he, Nat.add_mul]; omega
      rw [this, ← List.drop_drop, List.drop_left']
      ·exact ih i x hx
      ·rfl
 rcases h with ⟨h1, c, rfl⟩ | ⟨b, n, rfl, h2, h3, h4, h5⟩
 ·have : l = [] := by
   cases l with
   | nil => rfl
   | cons x l =>
     have h0 := hlen (x :: l)
     rw [h1, List.length_nil, List.length_cons] at h0
     exact absurd h0 (Nat.ne_of_lt (Nat.mul_pos (Nat.succ_pos l.length) hs))
  exact .inl ⟨this, c, rfl⟩
 ·have hn : n = l.length := Nat.eq_of_mul_eq_mul_right hs (h2.symm.trans (hlen l))
  subst hn
  refine .inr ⟨b, 0, _, rfl, ⟨h4, h5⟩, h3, (by rw [hlen, Nat.zero_add]; exact Nat.le_refl _), fun i x hx => ?_⟩
  rw [Nat.zero_add, hdrop l i x hx]
  exact hR x (List.mem_of_getElem? hx)
end Go.AM
set_option linter.unusedVariables false
namespace Go.AM
open Go.RowKit
end Go.AM
set_option linter.unusedVariables false
namespace Go.AM
open Go.RowKit
def tiles (P : Program) : Nat → List (Nat × TypeId) → Nat → Bool
 | acc, [], tot => Nat.beq acc tot
 | acc, (o, t) :: r, tot => Nat.beq o acc && tiles P (acc + P.cellsOf t) r tot
def okT (P : Program) : Nat → TypeId → Bool
 | 0, _ => false
 | k + 1, t =>
   match P.underlying t with
   | some .bool | some (.int _) | some .string => true
   | some (.slice e) => Nat.ble 1 (P.cellsOf e) && okT P k e
   | some (.struct fs) => (fs.toList.all fun f => okT P k f.type) && tiles P 0 (fs.toList.map fun f => (f.offset, f.type)) (P.cellsOf t)
   | _ => false
inductive WT (P : Program) (st : St) : TypeId → List Value → Prop
 | bool {t : TypeId} {b : Bool} (ht : P.underlying t = some .bool) : WT P st t [.bool b]
 | int {t : TypeId} {k : IntKind} {n : Int} (ht : P.underlying t = some (.int k)) (hw : (Lit.int k n).wf = true) : WT P st t [.int k n]
 | str {t : TypeId} {s : ByteArray} (ht : P.underlying t = some .string) (hs : s.size ≤ reachBytes) : WT P st t [.string s]
 | nil {t e : TypeId} (ht : P.underlying t = some (.slice e)) : WT P st t [.slice none 0 (P.cellsOf e)]
 | slice {t e : TypeId} {id n : Nat} {xs : List Value} (ht : P.underlying t = some (.slice e)) (hg : st.get id = some (.cells xs)) (hi : id < st.next) (hx : xs.length = n * P.cellsOf e) (hb : n * P.bytesOf e ≤ reachBytes)
    (he : ∀ i, i < n → WT P st e ((xs.drop (i * P.cellsOf e)).take (P.cellsOf e))) : WT P st t [.slice (some ⟨id, 0, none⟩) n (P.cellsOf e)]
 | struct {t : TypeId} {fs : Array Field} {cs : List Value} (ht : P.underlying t = some (.struct fs)) (hl : cs.length = P.cellsOf t) (hf : ∀ f ∈ fs.toList, WT P st f.type ((cs.drop f.offset).take (P.cellsOf f.type))) : WT P st t cs
theorem WT.mono {P : Program} {st st' : St} (hE : ∀ id, id < st.next → st'.get id = st.get id) (hn : st.next ≤ st'.next) {t : TypeId} {cs : List Value} (h : WT P st t cs) : WT P st' t cs := by
 induction h with
 | bool ht => exact .bool ht
 | int ht hw => exact .int ht hw
 | str ht hs => exact .str ht hs
 | nil ht => exact .nil ht
 | slice ht hg hi hx hb _ ih => exact .slice ht (by rw [hE _ hi]; exact hg) (Nat.lt_of_lt_of_le hi hn) hx hb ih
 | struct ht hl _ ih => exact .struct ht hl ih
section
variable {P : Program} {st : St} {t : TypeId} {cs : List Value}
theorem WT.getBool (ht : P.underlying t = some .bool) (h : WT P st t cs) : ∃ b, cs = [.bool b] := by
 cases h with
 | bool => exact ⟨_, rfl⟩
 | int k => rw [ht] at k; cases k
 | str k => rw [ht] at k; cases k
 | nil k => rw [ht] at k; cases k
 | slice k => rw [ht] at k; cases k
 | struct k => rw [ht] at k; cases k
theorem WT.getInt {q : IntKind} (ht : P.underlying t = some (.int q)) (h : WT P st t cs) : ∃ n, cs = [.int q n] ∧ (Lit.int q n).wf = true := by
 cases h with
 | bool k => rw [ht] at k; cases k
 | int k hw => rw [ht] at k; cases k; exact ⟨_, rfl, hw⟩
 | str k => rw [ht] at k; cases k
 | nil k => rw [ht] at k; cases k
 | slice k => rw [ht] at k; cases k
 | struct k => rw [ht] at k; cases k
theorem WT.getStr (ht : P.underlying t = some .string) (h : WT P st t cs) : ∃ s : ByteArray, cs = [.string s] ∧ s.size ≤ reachBytes := by
 cases h with
 | bool k => rw [ht] at k; cases k
 | int k hw => rw [ht] at k; cases k
 | str k hs => exact ⟨_, rfl, hs⟩
 | nil k => rw [ht] at k; cases k
 | slice k => rw [ht] at k; cases k
 | struct k => rw [ht] at k; cases k
theorem WT.getStruct {fs : Array Field} (ht : P.underlying t = some (.struct fs)) (h : WT P st t cs) : cs.length = P.cellsOf t ∧ ∀ f ∈ fs.toList, WT P st f.type ((cs.drop f.offset).take (P.cellsOf f.type)) := by
 cases h with
 | bool k => rw [ht] at k; cases k
 | int k hw => rw [ht] at k; cases k
 | str k => rw [ht] at k; cases k
 | nil k => rw [ht] at k; cases k
 | slice k => rw [ht] at k; cases k
 | struct k hl hf => rw [ht] at k; cases k; exact ⟨hl, hf⟩
end
structure Mem (P : Program) (W : World) (st : St) (g : Ghost) : Prop where
 ro : st.ro = st.next
 glob : ∀ i, i < P.globals.size → ∃ G, g i = some G ∧ G.blk = i ∧ G.off = 0
 dom : ∀ id, st.next ≤ id → g id = none
 top : ∀ id o, st.get id = some o → id < st.next
 obj : ∀ id o, st.get id = some o → o.live = true → ∃ G, g id = some G ∧ ∀ R, st.next ≤ R → ObjOk P R g W.heap id G o
def allocR (st : St) (o : AObj) : St := ⟨st.h.set st.next o, st.next + 1, st.next + 1⟩
theorem get_allocR (st : St) (o : AObj) (id : Nat) : (allocR st o).get id = if id = st.next then some o else st.get id := Tr.get_set _ _ _ _
structure Le (st : St) (g : Ghost) (st' : St) (g' : Ghost) : Prop where
 get : ∀ id, id < st.next → st'.get id = st.get id
 next : st.next ≤ st'.next
 gh : g.le g'
theorem Le.refl (st : St) (g : Ghost) : Le st g st g := ⟨fun _ _ => rfl, Nat.le_refl _, Ghost.le_refl g⟩
theorem Le.trans {a b c : St} {g g' g'' : Ghost} (h : Le a g b g') (k : Le b g' c g'') : Le a g c g'' :=
 ⟨fun id hi => (k.get id (Nat.lt_of_lt_of_le hi h.next)).trans (h.get id hi), Nat.le_trans h.next k.next, Ghost.le_trans h.gh k.gh⟩
section
variable {H : Type} {enc : TypeId × Value → H} {P : Program} {W : World}
theorem Mem.put {st : St} {g : Ghost} (hM : Mem P W st g) {xs : List Value} {G : Gh} {arr : Array Value} {T : TypeId} {fz : Nat × Nat} (h1 : W.heap[G.blk]? = some (.cells arr T fz)) (h2 : G.off + G.room ≤ arr.size) (h3 : xs.length = G.ext) (h4 : G.ext ≤ G.room)
 (h5 : RelL g xs ((arr.toList.drop G.off).take G.ext)) : ∃ g', Mem P W (allocR st (.cells xs)) g' ∧ Le st g (allocR st (.cells xs)) g' ∧ g' st.next = some G := by
 have hle : Ghost.le g (fun id => if id = st.next then some G else g id) := fun id G' e => by
  by_cases hi : id = st.next
  ·subst hi; rw [hM.dom _ (Nat.le_refl _)] at e; cases e
  ·show (if id = st.next then some G else g id) = some G'
   rw [if_neg hi]; exact e
 refine ⟨fun id => if id = st.next then some G else g id, ⟨rfl, fun i hi => ?_, fun id hi => ?_, fun id o ho => ?_, fun id o ho hl => ?_⟩, ⟨fun id hi => ?_, Nat.le_succ _, hle⟩, if_pos rfl⟩
 ·obtain ⟨G', k1, k2⟩ := hM.glob i hi
  exact ⟨G', hle _ _ k1, k2⟩
 ·have hi : st.next + 1 ≤ id := hi
  show (if id = st.next then some G else g id) = none
  rw [if_neg (by omega)]; exact hM.dom id (by omega)
 ·rw [get_allocR] at ho
  show id < st.next + 1
  split at ho
  ·omega
  ·exact Nat.lt_succ_of_lt (hM.top id o ho)
 ·rw [get_allocR] at ho
  split at ho
  ·rename_i hi
   cases ho
   subst hi
   refine ⟨G, if_pos rfl, fun R hR => ⟨arr, T, fz, h1, h2, h3, h4, h5.mono hle, fun hro => ?_⟩⟩
   have hR : st.next + 1 ≤ R := hR
   omega
  ·obtain ⟨G', k1, k2⟩ := hM.obj id o ho hl
   exact ⟨G', hle _ _ k1, fun R hR => (k2 R (by have hR : st.next + 1 ≤ R := hR; omega)).mono hle⟩
 ·rw [get_allocR, if_neg (Nat.ne_of_lt hi)]
def Prod (P : Program) (W : World) (t : TypeId) (cs : List Value) : Prop := ∀ st g, Mem P W st g → ∃ st' g' cs', Mem P W st' g' ∧ Le st g st' g' ∧ RelL g' cs' cs ∧ WT P st' t cs'
theorem parts_prod {tot : Nat} {cs : List Value} (hl : cs.length = tot) : ∀ (fs : List (Nat × TypeId)) (acc : Nat), tiles P acc fs tot = true → (∀ f ∈ fs, Prod P W f.2 ((cs.drop f.1).take (P.cellsOf f.2))) → ∀ st g, Mem P W st g →
 ∃ st' g' cs', Mem P W st' g' ∧ Le st g st' g' ∧ RelL g' cs' (cs.drop acc) ∧ ∀ f ∈ fs, acc ≤ f.1 ∧ WT P st' f.2 ((cs'.drop (f.1 - acc)).take (P.cellsOf f.2)) := by
 intro fs
 induction fs with
 | nil =>
   intro acc ht _ st g hM
   have : acc = tot := Nat.eq_of_beq_eq_true ht
   subst this
   exact ⟨st, g, [], hM, Le.refl _ _, by rw [← hl, List.drop_length]; exact .nil g, fun f hf => by cases hf⟩
 | cons f fs ih =>
   intro acc ht hp st g hM
   obtain ⟨o, t⟩ := f
   simp only [tiles, Bool.and_eq_true] at ht
   have ho : o = acc := Nat.eq_of_beq_eq_true ht.1
   subst ho
   obtain ⟨s1, g1, c1, hM1, hL1, hR1, hW1⟩ := hp (o, t) (List.mem_cons_self ..) st g hM
   obtain ⟨s2, g2, c2, hM2, hL2, hR2, hW2⟩ := ih (o + P.cellsOf t) ht.2 (fun f hf => hp f (List.mem_cons_of_mem _ hf)) s1 g1 hM1
   have tl : ∀ (fs : List (Nat × TypeId)) (a : Nat), tiles P a fs tot = true → a ≤ tot := by
    intro fs
    induction fs with
    | nil => intro a h; exact Nat.le_of_eq (Nat.eq_of_beq_eq_true h)
    | cons f fs ih2 =>
      intro a h
      obtain ⟨o', t'⟩ := f
      simp only [tiles, Bool.and_eq_true] at h
      have := ih2 _ h.2
      omega
   have hle : o + P.cellsOf t ≤ tot := tl fs _ ht.2
   have hlen : c1.length = P.cellsOf t := by
    rw [hR1.1, List.length_take, List.length_drop]; simp only; omega
   refine ⟨s2, g2, c1 ++ c2, hM2, hL1.trans hL2, ?_, fun f hf => ?_⟩
   ·have : cs.drop o = (cs.drop o).take (P.cellsOf t) ++ cs.drop (o + P.cellsOf t) := by
     rw [← List.drop_drop, List.take_append_drop]
    rw [this]
    exact (hR1.mono hL2.gh).append hR2
   ·rcases List.mem_cons.1 hf with rfl | hf
    ·refine ⟨Nat.le_refl _, ?_⟩
     simp only [Nat.sub_self, List.drop_zero]
     rw [List.take_append_of_le_length (by omega), List.take_of_length_le (by omega)]
     exact hW1.mono hL2.get hL2.next
    ·obtain ⟨k1, k2⟩ := hW2 f hf
     refine ⟨by omega, ?_⟩
     have : f.1 - o = c1.length + (f.1 - (o + P.cellsOf t)) := by omega
     rw [this, List.drop_append, List.drop_eq_nil_of_le (by omega)]
     simpa using k2
theorem tiles_row (c : Nat) {e : TypeId} (hc : P.cellsOf e = c) : ∀ (n k : Nat), tiles P (k * c) ((List.range' k n).map fun i => (i * c, e)) ((k + n) * c) = true := by
 intro n
 induction n with
 | zero => intro k; simp [tiles]
 | succ n ih =>
   intro k
   simp only [List.range'_succ, List.map_cons, tiles, Nat.beq_refl, Bool.true_and, hc]
   have := ih (k + 1)
   rw [show k * c + c = (k + 1) * c by rw [Nat.succ_mul], show k + (n + 1) = k + 1 + n by omega]
   exact this
theorem wcells_get {w : World} {b : Nat} {a : Addr} {c : Nat} {cs : List Value} (h : w.cells? b a c = some cs) (hc : 0 < c) : a.spot = none ∧ ∃ arr T fz, w.heap[a.block]? = some (.cells arr T fz) ∧ a.off + c ≤ arr.size ∧ cs = (arr.toList.drop a.off).take c := by
 obtain ⟨_, hlen, hcs⟩ := World.cells?_some h
 have h0 := hcs 0 hc
 simp only [Addr.add, if_true] at h0
 rw [List.getElem?_eq_getElem (by omega)] at h0
 unfold World.cell? at h0
 split at h0
 ·rename_i arr T fz hg
  split at h0
  ·cases h0
  ·rename_i hsp
   have hsp : a.spot = none := by simpa using hsp
   have hall : ∀ i, i < c → arr[a.off + i]? = cs[i]? := fun i hi => by
    have := hcs i hi
    rw [List.getElem?_eq_getElem (by omega)] at this ⊢
    unfold World.cell? at this
    by_cases h0 : i = 0
    ·subst h0
     simp only [Addr.add, if_true, hg, hsp] at this
     simpa using this
    ·simp only [Addr.add, if_neg h0, hg] at this
     simpa using this
   have hlast := hall (c - 1) (by omega)
   rw [List.getElem?_eq_getElem (by omega)] at hlast
   have hsz := (Array.getElem?_eq_some_iff.1 hlast).1
   refine ⟨hsp, arr, T, fz, hg, by omega, ?_⟩
   apply List.ext_getElem?
   intro i
   rw [List.getElem?_take]
   split
   ·rename_i hi
    rw [List.getElem?_drop, ← hall i hi]
    simp
   ·rw [List.getElem?_eq_none (by omega)]
 ·cases h0
theorem trod_prod (hblk : ∃ (b : Nat) (arr : Array Value) (T : TypeId) (fz : Nat × Nat), W.heap[b]? = some (.cells arr T fz)) : ∀ (k : Nat) (fuel : Nat) (t : TypeId) (cs : List Value) (x : DataW H × List MemPlace), okT P k t = true → DataW.trod enc P W 0 (fun _ => true) true fuel t cs = some x →
 (∀ y ∈ DataW.weights P t x.1, y ≤ reachBytes) → Prod P W t cs := by
 intro k
 induction k with
 | zero => intro fuel t cs x h; cases h
 | succ k ih =>
   intro fuel t cs x hok h hw st g hM
   simp only [okT] at hok
   split at hok
   ·rename_i ht
    obtain ⟨b, rfl, _⟩ := DataW.trod_bool ht h
    exact ⟨st, g, [.bool b], hM, Le.refl _ _, .of_flat fun v hv => by simp at hv; subst hv; exact .flat rfl, .bool ht⟩
   ·rename_i q ht
    obtain ⟨n, rfl, _, hwf⟩ := DataW.trod_int ht h
    exact ⟨st, g, [.int q n], hM, Le.refl _ _, .of_flat fun v hv => by simp at hv; subst hv; exact .flat rfl, .int ht hwf⟩
   ·rename_i ht
    obtain ⟨s, rfl, rfl, hs⟩ := DataW.trod_string ht h
    refine ⟨st, g, [.string s], hM, Le.refl _ _, .of_flat fun v hv => by simp at hv; subst hv; exact .flat rfl, .str ht ?_⟩
    have := hw s.data.toList.length (by simp [DataW.weights])
    rw [Array.length_toList] at this
    exact this
   ·rename_i e ht
    rw [Bool.and_eq_true] at hok
    have hc : 0 < P.cellsOf e := Nat.le_of_ble_eq_true hok.1
    rcases DataW.trod_slice ht h with ⟨rfl, _⟩ | ⟨a, len, cap, elems, rest, n, _, rfl, hx, _, hlc, _, hel, h1, h2, _⟩
    ·exact ⟨st, g, [.slice none 0 (P.cellsOf e)], hM, Le.refl _ _, .cons (.nilSlice _) (.nil g), .nil ht⟩
    ·obtain ⟨hrl, h2⟩ := h2 rfl
     have hwe : ∀ d ∈ elems.map (·.1), ∀ y ∈ DataW.weights P e d, y ≤ reachBytes := fun d hd y hy => by
      refine hw y ?_
      rw [hx]
      simp only [DataW.weights, ht]
      refine List.mem_cons_of_mem _ (List.mem_append_left _ ?_)
      have : ∀ l : List (DataW H), d ∈ l → y ∈ DataW.weightsAll P e l := by
       intro l
       induction l with
       | nil => intro h; cases h
       | cons z l ihl =>
         intro h
         simp only [DataW.weightsAll, List.mem_append]
         rcases List.mem_cons.1 h with rfl | h
         ·exact .inl hy
         ·exact .inr (ihl h)
      exact this _ hd
     have hbytes : len * P.bytesOf e ≤ reachBytes := by
      have := hw ((elems.length + rest.length) * P.bytesOf e) (by rw [hx]; simp only [DataW.weights, ht, List.length_map]; exact List.mem_cons_self ..)
      exact Nat.le_trans (Nat.mul_le_mul_right _ (by omega)) this
     by_cases hcap : cap = 0
     ·
      have hlen : len = 0 := by omega
      subst hcap; subst hlen
      obtain ⟨b, arr, T, fz, hb⟩ := hblk
      obtain ⟨g', hM', hL', hG'⟩ := hM.put (xs := []) (G := ⟨b, 0, 0, 0⟩) hb (Nat.zero_le _) rfl (Nat.le_refl _) (by simpa using RelL.nil g)
      refine ⟨_, g', [.slice (some ⟨st.next, 0, none⟩) 0 (P.cellsOf e)], hM', hL', .cons (.emptySlice hG' hc (Nat.le_refl _) (Nat.le_refl _)) (.nil g'), ?_⟩
      exact .slice ht (by rw [get_allocR, if_pos rfl]) (Nat.lt_succ_self _) (by simp) hbytes (fun i hi => by omega)
     ·
      have hcell : ∀ i, i < cap → ∃ ci y, W.cells? 0 (a.add (i * P.cellsOf e)) (P.cellsOf e) = some ci ∧ (i < len → y ∈ elems ∧ DataW.trod enc P W 0 (fun _ => true) true n e ci = some y) := fun i hi => by
       by_cases hil : i < len
       ·have := h1 i hil
        rw [List.getElem?_eq_getElem (by omega), Option.bind_eq_some_iff] at this
        obtain ⟨ci, k1, k2⟩ := this
        exact ⟨ci, _, k1, fun _ => ⟨List.getElem_mem _, k2⟩⟩
       ·have := h2 (i - len) (by omega)
        rw [List.getElem?_eq_getElem (by omega), Option.bind_eq_some_iff] at this
        obtain ⟨ci, k1, k2⟩ := this
        rw [show len + (i - len) = i by omega] at k1
        exact ⟨ci, rest[i - len], k1, fun h => absurd h hil⟩
      obtain ⟨c0, _, hc0, _⟩ := hcell 0 (by omega)
      simp only [Nat.zero_mul, Addr.add, if_true] at hc0
      obtain ⟨hsp, arr, T, fz, hb, _, _⟩ := wcells_get hc0 hc
      have hrow : ∀ i, i < cap → ∃ ci y, a.off + i * P.cellsOf e + P.cellsOf e ≤ arr.size ∧ ci = (arr.toList.drop (a.off + i * P.cellsOf e)).take (P.cellsOf e) ∧ (i < len → y ∈ elems ∧ DataW.trod enc P W 0 (fun _ => true) true n e ci = some y) := fun i hi => by
       obtain ⟨ci, y, k1, k2⟩ := hcell i hi
       obtain ⟨_, arr', T', fz', hb', k3, k4⟩ := wcells_get k1 hc
       have eb : (a.add (i * P.cellsOf e)).block = a.block := by unfold Addr.add; split <;> rfl
       have eo : (a.add (i * P.cellsOf e)).off = a.off + i * P.cellsOf e := by unfold Addr.add; split <;> simp_all
       rw [eb, hb] at hb'
       cases hb'
       rw [eo] at k3 k4
       exact ⟨ci, y, k3, k4, k2⟩
      have hroom : a.off + cap * P.cellsOf e ≤ arr.size := by
       obtain ⟨_, _, k3, _⟩ := hrow (cap - 1) (by omega)
       have : cap * P.cellsOf e = (cap - 1) * P.cellsOf e + P.cellsOf e := by rw [← Nat.succ_mul]; congr 1; omega
       omega
      have hlcc : len * P.cellsOf e ≤ cap * P.cellsOf e := Nat.mul_le_mul_right _ hlc
      let L := (arr.toList.drop a.off).take (len * P.cellsOf e)
      have hL : L.length = len * P.cellsOf e := by simp only [L, List.length_take, List.length_drop, Array.length_toList]; omega
      have hpiece : ∀ i, i < len → (L.drop (i * P.cellsOf e)).take (P.cellsOf e) = (arr.toList.drop (a.off + i * P.cellsOf e)).take (P.cellsOf e) := fun i hi => by
       have hle : i * P.cellsOf e + P.cellsOf e ≤ len * P.cellsOf e := by rw [← Nat.succ_mul]; exact Nat.mul_le_mul_right _ hi
       simp only [L]
       rw [List.drop_take, List.take_take, List.drop_drop]
       congr 1
       omega
      obtain ⟨s1, g1, xs, hM1, hL1, hR1, hW1⟩ := parts_prod (P := P) (W := W) hL ((List.range' 0 len).map fun i => (i * P.cellsOf e, e)) 0 (by simpa using tiles_row (P := P) (P.cellsOf e) rfl len 0) (fun f hf => by
       obtain ⟨i, hi, rfl⟩ := List.mem_map.1 hf
       have hi : i < len := by simpa using hi
       obtain ⟨ci, y, _, hci, hty⟩ := hrow i (by omega)
       obtain ⟨hy, hty⟩ := hty hi
       simp only
       rw [hpiece i hi, ← hci]
       exact ih n e ci y hok.2 hty (hwe _ (List.mem_map.2 ⟨y, hy, rfl⟩))) st g hM
      simp only [List.drop_zero] at hR1
      obtain ⟨g2, hM2, hL2, hG2⟩ := hM1.put (xs := xs) (G := ⟨a.block, a.off, len * P.cellsOf e, cap * P.cellsOf e⟩) hb hroom (hR1.1.trans hL) hlcc hR1
      refine ⟨_, g2, [.slice (some ⟨s1.next, 0, none⟩) len (P.cellsOf e)], hM2, hL1.trans hL2, .cons ?_ (.nil g2), ?_⟩
      ·have ha : a = ⟨a.block, a.off + 0, none⟩ := by rw [Nat.add_zero, ← hsp]
       rw [ha]
       exact .slice (G := ⟨a.block, a.off, len * P.cellsOf e, cap * P.cellsOf e⟩) hG2 hc hlc (by simpa using hlcc) (by simp)
      ·refine .slice ht (by rw [get_allocR, if_pos rfl]) (Nat.lt_succ_self _) (hR1.1.trans hL) hbytes fun i hi => ?_
       have := (hW1 (i * P.cellsOf e, e) (List.mem_map.2 ⟨i, by simpa using hi, rfl⟩)).2
       simp only [Nat.sub_zero] at this
       exact this.mono hL2.get hL2.next
   ·rename_i fs ht
    rw [Bool.and_eq_true] at hok
    obtain ⟨xs, n, _, rfl, hl, hxl, hf⟩ := DataW.trod_struct ht h
    have hpart : ∀ f ∈ fs.toList, Prod P W f.type ((cs.drop f.offset).take (P.cellsOf f.type)) := fun f hf' => by
     obtain ⟨i, hi, hfi⟩ := List.mem_iff_getElem.1 hf'
     have hi' : i < fs.size := by simpa using hi
     have hgi : fs[i]? = some f := by rw [Array.getElem?_eq_getElem hi']; simpa using hfi
     have hx := hf i f hgi
     have hix : i < xs.length := by omega
     rw [List.getElem?_eq_getElem hix] at hx
     refine ih n f.type _ _ (List.all_eq_true.1 hok.1 f hf') hx fun y hy => hw y ?_
     simp only [DataW.weights, ht]
     have : ∀ (ts : List TypeId) (ds : List (DataW H)) (i : Nat) (t : TypeId) (d : DataW H), ts[i]? = some t → ds[i]? = some d → y ∈ DataW.weights P t d → y ∈ DataW.weightsEach P ts ds := by
      intro ts
      induction ts with
      | nil => intro ds i t d h; simp at h
      | cons t0 ts iht =>
        intro ds i t d hti hdi hy
        cases ds with
        | nil => simp at hdi
        | cons d0 ds =>
          simp only [DataW.weightsEach, List.mem_append]
          cases i with
          | zero => simp at hti hdi; subst hti; subst hdi; exact .inl hy
          | succ i => simp at hti hdi; exact .inr (iht ds i t d hti hdi hy)
     exact this _ _ i f.type xs[i].1 (by rw [List.getElem?_map, List.getElem?_eq_getElem hi, hfi]; rfl) (by rw [List.getElem?_map, List.getElem?_eq_getElem hix]; rfl) hy
    obtain ⟨s1, g1, c1, hM1, hL1, hR1, hW1⟩ := parts_prod (P := P) (W := W) hl (fs.toList.map fun f => (f.offset, f.type)) 0 hok.2 (fun f hf => by
     obtain ⟨f', hf', rfl⟩ := List.mem_map.1 hf
     exact hpart f' hf') st g hM
    simp only [List.drop_zero] at hR1
    refine ⟨s1, g1, c1, hM1, hL1, hR1, .struct ht (hR1.1.trans hl) fun f hf => ?_⟩
    have := (hW1 (f.offset, f.type) (List.mem_map.2 ⟨f, hf, rfl⟩)).2
    simpa using this
   ·cases hok
def isStruct (P : Program) (t : TypeId) : Bool := match P.underlying t with | some (.struct _) => true | _ => false
def WV (P : Program) (st : St) (t : TypeId) (v : Value) : Prop := if isStruct P t = true then ∃ cs, v = .agg cs ∧ WT P st t cs.toList else WT P st t [v]
def WVs (P : Program) (st : St) : List TypeId → List Value → Prop
 | [], [] => True
 | t :: ts, v :: vs => WV P st t v ∧ WVs P st ts vs
 | _, _ => False
theorem WV.mono {st st' : St} (hE : ∀ id, id < st.next → st'.get id = st.get id) (hn : st.next ≤ st'.next) {t : TypeId} {v : Value} (h : WV P st t v) : WV P st' t v := by
 unfold WV at h ⊢
 split at h
 ·rename_i hs; rw [if_pos hs]; exact h.imp fun cs h => ⟨h.1, h.2.mono hE hn⟩
 ·rename_i hs; rw [if_neg hs]; exact h.mono hE hn
theorem args_prod (hblk : ∃ (b : Nat) (arr : Array Value) (T : TypeId) (fz : Nat × Nat), W.heap[b]? = some (.cells arr T fz)) {k base : Nat} : ∀ (ts : List TypeId) (vs : List Value) (ds : List (DataW H)) (ps : List MemPlace), ts.all (okT P k) = true → DataW.TrodAll enc P W 0 (fun _ => true) true ts vs ds ps →
 (∀ y ∈ DataW.weightsEach P ts ds, y ≤ reachBytes) → (∀ (j : Nat) t v, ts[j]? = some t → vs[j]? = some v → Value.okWide P W .any base t v) → ∀ st g, Mem P W st g →
 ∃ st' g' vs', Mem P W st' g' ∧ Le st g st' g' ∧ RelL g' vs' vs ∧ WVs P st' ts vs' := by
 intro ts
 induction ts with
 | nil =>
   intro vs ds ps _ h _ _ st g hM
   cases vs with
   | nil => exact ⟨st, g, [], hM, Le.refl _ _, .nil g, trivial⟩
   | cons v vs => cases ds <;> exact h.elim
 | cons t ts ih =>
   intro vs ds ps hok h hw hv st g hM
   cases vs with
   | nil => cases ds <;> exact h.elim
   | cons v vs =>
     cases ds with
     | nil => exact h.elim
     | cons d ds =>
       obtain ⟨p, q, ⟨fuel, hd⟩, hr, _⟩ := h
       simp only [List.all_cons, Bool.and_eq_true] at hok
       simp only [DataW.weightsEach, List.mem_append] at hw
       obtain ⟨s1, g1, c1, hM1, hL1, hR1, hW1⟩ := trod_prod hblk k fuel t _ _ hok.1 hd (fun y hy => hw y (.inl hy)) st g hM
       obtain ⟨s2, g2, vs2, hM2, hL2, hR2, hW2⟩ := ih vs ds q hok.2 hr (fun y hy => hw y (.inr hy)) (fun j t v ht hv' => hv (j + 1) t v (by simpa using ht) (by simpa using hv')) s1 g1 hM1
       have hvt := hv 0 t v (by simp) (by simp)
       have key : ∃ v', Rel g1 v' v ∧ WV P s1 t v' := by
        unfold WV
        by_cases hs : isStruct P t = true
        ·simp only [if_pos hs]
         unfold isStruct at hs
         split at hs
         ·rename_i fs ht
          unfold Value.okWide at hvt
          rw [ht] at hvt
          obtain ⟨cs, rfl, _⟩ := hvt
          have hR1 : RelL g1 c1 cs.toList := hR1
          refine ⟨.agg c1.toArray, ?_, c1.toArray, rfl, by simpa using hW1⟩
          have := Rel.agg_of hR1
          simpa using this
         ·cases hs
        ·simp only [if_neg hs]
         have one : ∃ x, c1 = [x] := by
          cases hW1 with
          | bool => exact ⟨_, rfl⟩
          | int => exact ⟨_, rfl⟩
          | str => exact ⟨_, rfl⟩
          | nil => exact ⟨_, rfl⟩
          | slice => exact ⟨_, rfl⟩
          | struct ht => exact absurd (by simp [isStruct, ht]) hs
         obtain ⟨x, rfl⟩ := one
         refine ⟨x, ?_, hW1⟩
         have hna : ∀ cs, v ≠ .agg cs := fun cs e => by
          subst e
          unfold Value.okWide at hvt
          cases hW1 with
          | bool ht => rw [ht] at hvt; simp [Cell.okWide, Cell.ok, ht] at hvt
          | int ht => rw [ht] at hvt; simp [Cell.okWide, Cell.ok, ht] at hvt
          | str ht => rw [ht] at hvt; simp [Cell.okWide, Cell.ok, ht] at hvt
          | nil ht => rw [ht] at hvt; simp [Cell.okWide, Cell.ok, ht] at hvt
          | slice ht => rw [ht] at hvt; simp [Cell.okWide, Cell.ok, ht] at hvt
          | struct ht => exact hs (by simp [isStruct, ht])
         have hc : v.cells = #[v] := by
          unfold Value.cells
          split
          ·rename_i cs; exact absurd rfl (hna cs)
          ·rfl
         rw [hc] at hR1
         exact RelL.head hR1
       obtain ⟨v', hRv, hWv⟩ := key
       exact ⟨s2, g2, v' :: vs2, hM2, hL1.trans hL2, .cons (hRv.mono hL2.gh) hR2, hWv.mono hL2.get hL2.next, hW2⟩
theorem Mem.inv {st : St} {g : Ghost} (hM : Mem P W st g) (hi : Nat) : Inv0 P hi st g W where
 rl := ⟨fun id o h hl => by
     obtain ⟨G, k1, k2⟩ := hM.obj id o h hl
     exact ⟨G, k1, k2 _ (by rw [hM.ro]; exact Nat.le_refl _)⟩,
  fun id id' o o' G G' h _ _ _ hro => by
   have := hM.top id o h
   have := hM.ro
   omega, hM.glob⟩
 ro := Nat.le_of_eq hM.ro
 fresh := fun id h _ => hM.dom id h
 top := fun id o h _ => hM.top id o h
end
end Go.AM
set_option linter.unusedVariables false
namespace Go.AM
open Go.RowKit Go.ChangeShapes
section
variable {H : Type} {enc : TypeId × Value → H}
theorem trodAll_stays {P : Program} (hl : laidOutB P = true) {W W' : World} (hB : Below W.heap.size W W') {sp : Nat → Bool} : ∀ (ts : List TypeId) (vs : List Value) (ds : List (DataW H)) (ps : List MemPlace),
 (ts.all fun t => P.readableRec t && decide (t < P.types.size)) = true → DataW.TrodAll enc P W 0 (fun _ => true) true ts vs ds ps → (∀ x ∈ ps, x.block < W.heap.size) → (∀ p ∈ ps, sp p.block = true) → DataW.TrodAll enc P W' 0 sp true ts vs ds ps := by
 intro ts
 induction ts with
 | nil =>
   intro vs ds ps _ h _ _
   cases vs <;> cases ds <;> exact h
 | cons t ts ih =>
   intro vs ds ps hr h hlt hsp
   cases vs with
   | nil => cases ds <;> exact h.elim
   | cons v vs =>
     cases ds with
     | nil => exact h.elim
     | cons d ds =>
       obtain ⟨p, q, h1, h2, rfl⟩ := h
       simp only [List.all_cons, Bool.and_eq_true, decide_eq_true_eq] at hr
       exact ⟨p, q, WideElems.Trod_stays hl hr.1.1 hr.1.2 h1 (fun x hx => hB.same (hlt x (List.mem_append_left _ hx))) (fun x hx => hsp x (List.mem_append_left _ hx)),
        ih vs ds q hr.2 h2 (fun x hx => hlt x (List.mem_append_right _ hx)) (fun x hx => hsp x (List.mem_append_right _ hx)), rfl⟩
theorem trodAll_length {P : Program} {W : World} {sp : Nat → Bool} : ∀ (ts : List TypeId) (vs : List Value) (ds : List (DataW H)) (ps : List MemPlace), DataW.TrodAll enc P W 0 sp true ts vs ds ps → ds.length = ts.length ∧ vs.length = ts.length := by
 intro ts
 induction ts with
 | nil => intro vs ds ps h; cases vs <;> cases ds <;> first | exact h.elim | exact ⟨rfl, rfl⟩
 | cons t ts ih =>
   intro vs ds ps h
   cases vs with
   | nil => cases ds <;> exact h.elim
   | cons v vs =>
     cases ds with
     | nil => exact h.elim
     | cons d ds =>
       obtain ⟨p, q, _, h2, _⟩ := h
       have := ih vs ds q h2
       exact ⟨by simp [this.1], by simp [this.2]⟩
end
end Go.AM
set_option linter.unusedVariables false
namespace Go.AM
open Go.RowKit
section
variable {P : Program} {st : St} {t : TypeId}
theorem WT.rsl {α : Type} {e : TypeId} {c : Nat} {v : Value} {R : List Value → α → Prop} (ht : P.underlying t = some (.slice e)) (hc : P.cellsOf e = c) (h : WT P st t [v]) (hR : ∀ cs, WT P st e cs → ∃ x, R cs x) :
 ∃ l, RSl (Bel st.next) st c R v l ∧ l.length * P.bytesOf e ≤ reachBytes := by
 subst hc
 generalize hv : [v] = cs at h
 cases h with
 | bool k => rw [ht] at k; cases k
 | int k hw => rw [ht] at k; cases k
 | str k => rw [ht] at k; cases k
 | struct k => rw [ht] at k; cases k
 | nil k =>
   cases hv
   exact ⟨[], .inl ⟨rfl, _, rfl⟩, by simp⟩
 | slice k hg hi hx hb he =>
   rename_i e' id n xs
   rw [ht] at k
   cases k
   cases hv
   have hR' : ∀ i : Fin n, ∃ x, R ((xs.drop (i.1 * P.cellsOf e)).take (P.cellsOf e)) x := fun i => hR _ (he i.1 i.2)
   obtain ⟨f, hf⟩ := Classical.axiomOfChoice hR'
   refine ⟨List.ofFn f, .inr ⟨id, 0, xs, by simp, hi, hg, by simp [hx], fun i x hx => ?_⟩, by simpa using hb⟩
   have hi := (List.getElem?_eq_some_iff.1 hx).1
   rw [List.getElem?_eq_getElem hi] at hx
   cases hx
   simp only [List.length_ofFn] at hi
   simpa using hf ⟨i, hi⟩
theorem WV.plain {v : Value} (hs : isStruct P t = false) (h : WV P st t v) : WT P st t [v] := by
 unfold WV at h
 rw [if_neg (by rw [hs]; simp)] at h
 exact h
theorem WV.agg {v : Value} (hs : isStruct P t = true) (h : WV P st t v) : ∃ cs, v = .agg cs ∧ WT P st t cs.toList := by
 unfold WV at h
 rw [if_pos hs] at h
 exact h
theorem WV.int {q : IntKind} {v : Value} (ht : P.underlying t = some (.int q)) (h : WV P st t v) : ∃ n, v = .int q n ∧ (Lit.int q n).wf = true := by
 obtain ⟨n, h1, h2⟩ := (h.plain (by simp [isStruct, ht])).getInt ht
 cases h1
 exact ⟨n, rfl, h2⟩
theorem WV.bool {v : Value} (ht : P.underlying t = some .bool) (h : WV P st t v) : ∃ b, v = .bool b := by
 obtain ⟨n, h1⟩ := (h.plain (by simp [isStruct, ht])).getBool ht
 cases h1
 exact ⟨n, rfl⟩
theorem WV.str {v : Value} (ht : P.underlying t = some .string) (h : WV P st t v) : ∃ s : ByteArray, v = .string s ∧ s.size ≤ reachBytes := by
 obtain ⟨n, h1, h2⟩ := (h.plain (by simp [isStruct, ht])).getStr ht
 cases h1
 exact ⟨n, rfl, h2⟩
theorem WV.rsl {α : Type} {e : TypeId} {c : Nat} {v : Value} {R : List Value → α → Prop} (ht : P.underlying t = some (.slice e)) (hc : P.cellsOf e = c) (h : WV P st t v) (hR : ∀ cs, WT P st e cs → ∃ x, R cs x) :
 ∃ l, RSl (Bel st.next) st c R v l ∧ l.length * P.bytesOf e ≤ reachBytes := (h.plain (by simp [isStruct, ht])).rsl ht hc hR
theorem fld {cs : List Value} {o : Nat} {x : Value} {q : IntKind} {u : TypeId} (hu : P.underlying u = some (.int q)) (hc : P.cellsOf u = 1) (h : WT P st u ((cs.drop o).take (P.cellsOf u))) (hx : cs[o]? = some x) : ∃ n, x = .int q n ∧ (Lit.int q n).wf = true := by
 obtain ⟨n, h1, h2⟩ := h.getInt hu
 have := congrArg (fun l => l[0]?) h1
 simp only [List.getElem?_take, hc, List.getElem?_drop, Nat.add_zero, hx] at this
 simp at this
 exact ⟨n, this, h2⟩
theorem fldS {cs : List Value} {o : Nat} {x : Value} {u e : TypeId} (hu : P.underlying u = some (.slice e)) (hc : P.cellsOf u = 1) (h : WT P st u ((cs.drop o).take (P.cellsOf u))) (hx : cs[o]? = some x) : WT P st u [x] := by
 have e : (cs.drop o).take (P.cellsOf u) = [x] := by
  rw [hc]
  have hi := (List.getElem?_eq_some_iff.1 hx).1
  rw [List.drop_eq_getElem_cons hi, List.take_succ_cons, List.take_zero]
  rw [List.getElem?_eq_getElem hi] at hx
  cases hx
  rfl
 rwa [e] at h
end
end Go.AM
set_option linter.unusedVariables false
set_option linter.unusedSimpArgs false
namespace Go.AM
abbrev Rep (α : Type) := St → List Value → α → List Nat → Prop
structure Framed {α : Type} (R : Rep α) : Prop where
 fr : ∀ {st st' : St} {cs : List Value} {x : α} {ids : List Nat}, R st cs x ids → (∀ id ∈ ids, st'.get id = st.get id) → R st' cs x ids
def RepSl {α : Type} (s : Nat) (R : Rep α) (st : St) (v : Value) (l : List α) (ids : List Nat) : Prop :=
 (l = [] ∧ ids = [] ∧ ∃ c, v = .slice none 0 c) ∨
 ∃ (b : Nat) (css : List (List Value)) (idss : List (List Nat)), v = Sl b 0 l.length s ∧ st.get b = some (.cells css.flatten) ∧ css.length = l.length ∧ idss.length = l.length ∧ (∀ cs ∈ css, cs.length = s ∧ cs.all cellOk = true) ∧
   (∀ (i : Nat) x cs is, l[i]? = some x → css[i]? = some cs → idss[i]? = some is → R st cs x is) ∧ ids = b :: idss.flatten
section
variable {α : Type} {s : Nat} {R : Rep α} {st st' : St} {v : Value} {l : List α} {ids : List Nat}
theorem flat_len {css : List (List Value)} (h : ∀ cs ∈ css, cs.length = s) : css.flatten.length = css.length * s := by
 induction css with
 | nil => simp
 | cons c css ih =>
   rw [List.flatten_cons, List.length_append, ih fun cs hc => h cs (List.mem_cons_of_mem _ hc), h c (List.mem_cons_self ..), List.length_cons, Nat.succ_mul]
   omega
theorem flat_at {css : List (List Value)} (h : ∀ cs ∈ css, cs.length = s) : ∀ {i : Nat} {cs : List Value}, css[i]? = some cs → (css.flatten.drop (i * s)).take s = cs := by
 induction css with
 | nil => intro i cs hi; simp at hi
 | cons c css ih =>
   intro i cs hi
   have hc : c.length = s := h c (List.mem_cons_self ..)
   cases i with
   | zero =>
     simp at hi
     subst hi
     rw [Nat.zero_mul, List.drop_zero, List.flatten_cons, ← hc, List.take_left']
     rfl
   | succ i =>
     simp only [List.getElem?_cons_succ] at hi
     have : (i + 1) * s = c.length + i * s := by rw [hc, Nat.succ_mul]; omega
     rw [List.flatten_cons, this, ← List.drop_drop, List.drop_left']
     ·exact ih (fun cs hc => h cs (List.mem_cons_of_mem _ hc)) hi
     ·rfl
theorem RepSl.nil (c : Nat) : RepSl s R st (.slice none 0 c) [] [] := .inl ⟨rfl, rfl, c, rfl⟩
theorem RepSl.frame (hF : Framed R) (h : RepSl s R st v l ids) (hE : ∀ id ∈ ids, st'.get id = st.get id) : RepSl s R st' v l ids := by
 rcases h with h | ⟨b, css, idss, h1, h2, h3, h4, h5, h6, rfl⟩
 ·exact .inl h
 ·refine .inr ⟨b, css, idss, h1, by rw [hE b (List.mem_cons_self ..)]; exact h2, h3, h4, h5, fun i x cs is hx hc hi => hF.fr (h6 i x cs is hx hc hi) fun id hid => hE id (List.mem_cons_of_mem _ ?_), rfl⟩
  exact List.mem_flatten.2 ⟨is, List.mem_of_getElem? hi, hid⟩
theorem RepSl.len (h : RepSl s R st v l ids) (st' : St) : sLen .slice v st' = .ok (I l.length, st') := by
 rcases h with ⟨rfl, _, c, rfl⟩ | ⟨b, css, idss, rfl, _⟩ <;> rfl
theorem RepSl.cell (h : RepSl s R st v l ids) : cellOk v = true := by
 rcases h with ⟨rfl, _, c, rfl⟩ | ⟨b, css, idss, rfl, _⟩ <;> rfl
theorem RepSl.tup (h : RepSl s R st v l ids) : isTuple v = false := by
 rcases h with ⟨rfl, _, c, rfl⟩ | ⟨b, css, idss, rfl, _⟩ <;> rfl
theorem RepSl.cells (h : RepSl s R st v l ids) : v.cells = #[v] := by
 rcases h with ⟨rfl, _, c, rfl⟩ | ⟨b, css, idss, rfl, _⟩ <;> rfl
theorem RepSl.rsl {R' : List Value → α → Prop} (h : RepSl s R st v l ids) (hR : ∀ cs x is, x ∈ l → (∀ id ∈ is, id ∈ ids) → R st cs x is → R' cs x) : RSl (fun id => id ∈ ids) st s R' v l := by
 rcases h with ⟨rfl, _, c, rfl⟩ | ⟨b, css, idss, rfl, h2, h3, h4, h5, h6, rfl⟩
 ·exact .inl ⟨rfl, c, rfl⟩
 ·refine .inr ⟨b, 0, _, rfl, List.mem_cons_self .., h2, by rw [flat_len fun cs hc => (h5 cs hc).1, h3]; omega, fun i x hx => ?_⟩
  have hi := (List.getElem?_eq_some_iff.1 hx).1
  have hc : css[i]? = some css[i] := List.getElem?_eq_getElem (by omega)
  have his : idss[i]? = some idss[i] := List.getElem?_eq_getElem (by omega)
  rw [Nat.zero_add, flat_at (fun cs hc => (h5 cs hc).1) hc]
  exact hR _ _ _ (List.mem_of_getElem? hx) (fun id hid => List.mem_cons_of_mem _ (List.mem_flatten.2 ⟨_, List.mem_of_getElem? his, hid⟩)) (h6 i x _ _ hx hc his)
theorem RepSl.at (h : RepSl s R st v l ids) {i : Nat} {x : α} (hx : l[i]? = some x) : ∃ (b : Nat) (cs : List Value) (is : List Nat), (∀ st' : St, sIxA s none v (I i) st' = .ok (P b (i * s), st')) ∧ b ∈ ids ∧ (∀ id ∈ is, id ∈ ids) ∧ (∀ st' : St, st'.get b = st.get b → st'.loadN b (i * s) s = .ok cs) ∧ R st cs x is ∧ cs.length = s ∧ cs.all cellOk = true ∧
 (∀ (st' : St) (k : Nat) y, st'.get b = st.get b → cs[k]? = some y → st'.load1 b (i * s + k) = .ok y) := by
 have hi := (List.getElem?_eq_some_iff.1 hx).1
 rcases h with ⟨rfl, _, c, rfl⟩ | ⟨b, css, idss, rfl, h2, h3, h4, h5, h6, rfl⟩
 ·simp at hx
 ·have hc : css[i]? = some css[i] := List.getElem?_eq_getElem (by omega)
  have his : idss[i]? = some idss[i] := List.getElem?_eq_getElem (by omega)
  have hlen : css.flatten.length = l.length * s := by rw [flat_len fun cs hc => (h5 cs hc).1, h3]
  have hle : i * s + s ≤ l.length * s := by rw [← Nat.succ_mul]; exact Nat.mul_le_mul_right s hi
  have hpiece := flat_at (fun cs hc => (h5 cs hc).1) hc
  obtain ⟨e1, e2⟩ := h5 _ (List.mem_of_getElem? hc)
  refine ⟨b, css[i], idss[i], fun st' => by simp [sIxA, index, Res.need, hi], List.mem_cons_self .., fun id hid => List.mem_cons_of_mem _ (List.mem_flatten.2 ⟨_, List.mem_of_getElem? his, hid⟩), fun st' hE => ?_, h6 i x _ _ hx hc his, e1, e2, fun st' k y hE hy => ?_⟩
  ·rw [loadN_def, hE, h2]
   simp only [need_dec (show i * s + s ≤ css.flatten.length by omega), Res.bind_ok, hpiece]
  ·have hk : k < s := by have := (List.getElem?_eq_some_iff.1 hy).1; omega
   rw [load1_def, hE, h2]
   simp only []
   have : css.flatten[i * s + k]? = some y := by
    rw [← hpiece, List.getElem?_take, if_pos hk, List.getElem?_drop] at hy
    exact hy
   rw [this]; rfl
theorem RepSl.push {bytes : Nat} {x : α} {cs : List Value} {is : List Nat} (hF : Framed R) (h : RepSl s R st v l ids) (hs : 0 < s) (hx : R st cs x is) (hcs : cs.length = s) (hck : cs.all cellOk = true) (hlt : ∀ id ∈ ids ++ is, id < st.next) (hro : ∀ id ∈ ids, st.ro ≤ id) (hnd : (ids ++ is).Nodup) (hb : (l.length + 1) * bytes ≤ 2 ^ 46) :
 ∃ (v' : Value) (st' : St) (ids' : List Nat), sAppend s bytes v (Sl st.next 0 1 s) (st.alloc (.cells cs)) = .ok (v', st') ∧ RepSl s R st' v' (l ++ [x]) ids' ∧ ids'.Nodup ∧ (∀ id ∈ ids', id ∈ ids ∨ id ∈ is ∨ (st.next ≤ id ∧ id < st'.next)) ∧ (∀ id, id < st.next → id ∉ ids → st'.get id = st.get id) ∧ st.next < st'.next ∧ st'.ro = st.ro := by
 have hneed : ∀ {b : Bool} {t : String}, b = true → Res.need b t = .ok () := fun h => by subst h; rfl
 have hg : (st.alloc (.cells cs)).get st.next = some (.cells cs) := by rw [get_alloc, if_pos rfl]
 have hlen : lenL (Sl st.next 0 1 s) = .ok 1 := rfl
 have hf : firstL (st.alloc (.cells cs)) s 1 (Sl st.next 0 1 s) = .ok cs := by
  simp only [firstL, hneed (decide_eq_true (rfl : s = s)), Res.bind_ok, St.loadN, cells_eq hg, hneed (decide_eq_true (show 0 + 1 * s ≤ cs.length by omega))]
  simp [← hcs]
 have hn : cs.length = 1 * s := by omega
 rcases h with ⟨rfl, rfl, c, rfl⟩ | ⟨b, css, idss, rfl, h2, h3, h4, h5, h6, rfl⟩
 ·have hbb : (0 + 1) * bytes ≤ mostBytes := by simpa [mostBytes] using hb
  refine ⟨Sl (st.next + 1) 0 1 s, (st.alloc (.cells cs)).alloc (.cells cs), [st.next + 1] ++ is, ?_, .inr ⟨st.next + 1, [cs], [is], rfl, by rw [get_alloc, if_pos (by rfl)]; simp, rfl, rfl, by simpa using ⟨hcs, by simpa using hck⟩, ?_, by simp⟩, ?_, ?_, ?_, Nat.lt_succ_of_lt (Nat.lt_succ_self _), rfl⟩
  ·simp only [sAppend, aappend, hlen, hf, Res.bind_ok, hneed (decide_eq_true hn), if_neg (by decide : ¬ (1 : Nat) = 0), hneed (decide_eq_true hbb), hneed hck, hneed (decide_eq_true (rfl : 0 = 0))]
   rfl
  ·intro i y c2 i2 hy hc hi
   cases i with
   | zero =>
     simp at hy hc hi
     subst hy; subst hc; subst hi
     exact hF.fr hx fun id hid => by
      have := hlt id (by simp [hid])
      rw [get_alloc, if_neg (by show id ≠ st.next + 1; omega), get_alloc, if_neg (by omega)]
   | succ i => simp at hy
  ·simp only [List.singleton_append, List.nodup_cons]
   exact ⟨fun hm => by have := hlt _ (List.mem_append_right _ hm); omega, by simpa using hnd⟩
  ·intro id hid
   simp only [List.singleton_append, List.mem_cons] at hid
   rcases hid with rfl | hid
   ·exact .inr (.inr ⟨by omega, Nat.lt_succ_self _⟩)
   ·exact .inr (.inl hid)
  ·intro id hid _
   rw [get_alloc, if_neg (by show id ≠ st.next + 1; omega), get_alloc, if_neg (by omega)]
 ·have hbm : b ∈ b :: idss.flatten := List.mem_cons_self ..
  have hbl : b < st.next := hlt b (List.mem_append_left _ hbm)
  have hrb : st.ro ≤ b := hro b hbm
  have hflen : css.flatten.length = l.length * s := by rw [flat_len fun cs hc => (h5 cs hc).1, h3]
  have hgb : (st.alloc (.cells cs)).get b = some (.cells css.flatten) := by rw [get_alloc, if_neg (by omega)]; exact h2
  have hbb : (l.length + 1) * bytes ≤ mostBytes := hb
  have hfull : ¬ 0 + (l.length + 1) * s ≤ css.flatten.length := by rw [hflen, Nat.succ_mul]; omega
  have hex : 0 + l.length * s = css.flatten.length := by omega
  have hkeep : ∀ id, id < st.next → id ≠ b → (((st.alloc (.cells cs)).put b .dead).alloc (.cells (css.flatten ++ cs))).get id = st.get id := fun id hi hne => by
   rw [get_alloc, if_neg (by show id ≠ st.next + 1; omega), get_put, if_neg hne, get_alloc, if_neg (by omega)]
  have hnd' := hnd
  rw [List.cons_append, List.nodup_cons] at hnd'
  refine ⟨Sl (st.next + 1) 0 (l.length + 1) s, ((st.alloc (.cells cs)).put b .dead).alloc (.cells (css.flatten ++ cs)), (st.next + 1) :: (idss ++ [is]).flatten, ?_, .inr ⟨st.next + 1, css ++ [cs], idss ++ [is], by simp, by rw [get_alloc, if_pos (by rfl)]; simp, by simp [h3], by simp [h4], ?_, ?_, rfl⟩, ?_, ?_, fun id hi hne => hkeep id hi fun e => hne (e ▸ hbm), Nat.lt_succ_of_lt (Nat.lt_succ_self _), rfl⟩
  ·have hro' : (st.alloc (.cells cs)).ro ≤ b := hrb
   simp only [sAppend, aappend, hlen, hf, Res.bind_ok, hneed (decide_eq_true hn), if_neg (by decide : ¬ (1 : Nat) = 0), hneed (decide_eq_true hbb), hneed hck, hneed (decide_eq_true (rfl : s = s)), cells_eq hgb, hneed (decide_eq_true hro'), if_neg hfull, hneed (decide_eq_true hex), List.drop_zero]
   rfl
  ·intro c hc
   rcases List.mem_append.1 hc with hc | hc
   ·exact h5 c hc
   ·simp at hc; subst hc; exact ⟨hcs, hck⟩
  ·intro i y c2 i2 hy hc hi
   rw [List.getElem?_append] at hy hc hi
   rw [h3] at hc
   rw [h4] at hi
   split at hy
   ·rename_i hil
    rw [if_pos hil] at hc hi
    refine hF.fr (h6 i y c2 i2 hy hc hi) fun id hid => hkeep id (hlt id (List.mem_append_left _ (List.mem_cons_of_mem _ (List.mem_flatten.2 ⟨i2, List.mem_of_getElem? hi, hid⟩)))) fun e => ?_
    subst e
    exact hnd'.1 (List.mem_append_left _ (List.mem_flatten.2 ⟨i2, List.mem_of_getElem? hi, hid⟩))
   ·rename_i hil
    rw [if_neg hil] at hc hi
    have h0 : i - l.length = 0 := by
     have := (List.getElem?_eq_some_iff.1 hy).1
     simp at this; omega
    rw [h0] at hy hc hi
    simp at hy hc hi
    subst hy; subst hc; subst hi
    refine hF.fr hx fun id hid => hkeep id (hlt id (List.mem_append_right _ hid)) fun e => ?_
    subst e
    exact hnd'.1 (List.mem_append_right _ hid)
  ·rw [List.flatten_append, List.nodup_cons]
   refine ⟨fun hm => ?_, by simpa using hnd'.2⟩
   have : st.next + 1 ∈ (b :: idss.flatten) ++ is := List.mem_cons_of_mem _ (by simpa using hm)
   have := hlt _ this
   omega
  ·intro id hid
   rcases List.mem_cons.1 hid with rfl | hid
   ·exact .inr (.inr ⟨by omega, Nat.lt_succ_self _⟩)
   ·rw [List.flatten_append, List.mem_append] at hid
    rcases hid with hid | hid
    ·exact .inl (List.mem_cons_of_mem _ hid)
    ·exact .inr (.inl (by simpa using hid))
theorem RepSl.put (hF : Framed R) {b : Nat} {css : List (List Value)} {idss : List (List Nat)} (h2 : st.get b = some (.cells css.flatten)) (h3 : css.length = l.length) (h4 : idss.length = l.length) (h5 : ∀ cs ∈ css, cs.length = s ∧ cs.all cellOk = true)
 (h6 : ∀ (i : Nat) x cs is, l[i]? = some x → css[i]? = some cs → idss[i]? = some is → R st cs x is) (hb : b ∉ idss.flatten) {st1 : St} {i : Nat} {y : α} {cs : List Value} {is : List Nat} (hi : i < l.length) (hcs : cs.length = s) (hck : cs.all cellOk = true) (hy : R st1 cs y is) (hbis : b ∉ is)
 (hE : ∀ (j : Nat) is', j ≠ i → idss[j]? = some is' → ∀ id ∈ is', st1.get id = st.get id) : RepSl s R (st1.put b (.cells (css.set i cs).flatten)) (Sl b 0 l.length s) (l.set i y) (b :: (idss.set i is).flatten) := by
 refine .inr ⟨b, css.set i cs, idss.set i is, by simp, by rw [get_put, if_pos rfl], by simp [h3], by simp [h4], fun c hc => ?_, fun j x c js hx hc hj => ?_, rfl⟩
 ·rcases List.mem_or_eq_of_mem_set hc with hc | rfl
  ·exact h5 c hc
  ·exact ⟨hcs, hck⟩
 ·by_cases hji : j = i
  ·subst hji
   rw [List.getElem?_set_self (by omega)] at hx hc hj
   cases hx; cases hc; cases hj
   exact hF.fr hy fun id hid => by rw [get_put, if_neg (fun e : id = b => hbis (e ▸ hid))]
  ·rw [List.getElem?_set_ne (Ne.symm hji)] at hx hc hj
   exact hF.fr (h6 j x c js hx hc hj) fun id hid => by
    rw [get_put, if_neg (fun e : id = b => hb (e ▸ List.mem_flatten.2 ⟨js, List.mem_of_getElem? hj, hid⟩))]
    exact hE j js hji hj id hid
end
end Go.AM
