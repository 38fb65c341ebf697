/-
  THE ABSTRACT MACHINE, 3: how its heap stands to the model's. A ghost says of each abstract name which block it is, from which cell on, how many cells are known, how many there are.
-/
import Derived.Test.YtfknooeebmdfoaaAmComp
import Derived.RangeFuncLeaves
import Derived.OrdersIn
import Derived.Below
import Derived.Laws.AppendOwn
set_option linter.unusedVariables false
namespace Go.AM

structure Gh where
  blk : Nat
  off : Nat
  ext : Nat
  room : Nat

abbrev Ghost := Nat → Option Gh

inductive Rel (g : Ghost) : Value → Value → Prop
  | nothing (v : Value) : Rel g nothing v
  | skip : Rel g skipped undef
  | flat {v : Value} (h : flat v = true) : Rel g v v
  | ptr {id o : Nat} {G : Gh} (h : g id = some G) : Rel g (.pointer (some ⟨id, o, none⟩)) (.pointer (some ⟨G.blk, G.off + o, none⟩))
  | nilSlice (s : Nat) : Rel g (.slice none 0 s) (.slice none 0 0)
  | slice {id o n s c : Nat} {G : Gh} (h : g id = some G) (hs : 0 < s) (hn : n ≤ c) (he : G.ext ≤ o + c * s) (hr : o + c * s ≤ G.room) :
      Rel g (.slice (some ⟨id, o, none⟩) n s) (.slice (some ⟨G.blk, G.off + o, none⟩) n c)
  | emptySlice {id o s : Nat} {a : Addr} {G : Gh} (h : g id = some G) (hs : 0 < s) (he : G.ext ≤ o) (hr : o ≤ G.room) (ha : a.spot = none) : Rel g (.slice (some ⟨id, o, none⟩) 0 s) (.slice (some a) 0 0)
  | map {id : Nat} {G : Gh} (h : g id = some G) : Rel g (.map (some id)) (.map (some G.blk))
  | func {f : FuncId} {a a' c c' : Array Value} (ha : a.size = a'.size) (hc : c.size = c'.size) (h : ∀ (i : Nat) (h1 : i < a.size) (h2 : i < a'.size), Rel g a[i] a'[i])
      (k : ∀ (i : Nat) (h1 : i < c.size) (h2 : i < c'.size), Rel g c[i] c'[i]) : Rel g (.func (.func f) a c) (.func (.func f) a' c')
  | yield {l : Nat} {G : Gh} (h : g l = some G) : Rel g (.func (.yield l) #[] #[]) (.func (.yield G.blk) #[] #[])
  | iface {t : TypeId} {v v' : Value} (h : Rel g v v') : Rel g (.iface t v) (.iface t v')
  | agg {c c' : Array Value} (hs : c.size = c'.size) (h : ∀ (i : Nat) (h1 : i < c.size) (h2 : i < c'.size), Rel g c[i] c'[i]) : Rel g (.agg c) (.agg c')
  | tuple {c c' : Array Value} (hs : c.size = c'.size) (h : ∀ (i : Nat) (h1 : i < c.size) (h2 : i < c'.size), Rel g c[i] c'[i]) : Rel g (.tuple c) (.tuple c')

def Ghost.le (g g' : Ghost) : Prop := ∀ id G, g id = some G → g' id = some G
theorem Ghost.le_refl (g : Ghost) : g.le g := fun _ _ h => h
theorem Ghost.le_trans {a b c : Ghost} (h : a.le b) (k : b.le c) : a.le c := fun id G e => k id G (h id G e)

theorem Rel.mono {g g' : Ghost} (hg : g.le g') {v v' : Value} (h : Rel g v v') : Rel g' v v' := by
  induction h with
  | nothing v => exact .nothing v
  | skip => exact .skip
  | flat h => exact .flat h
  | ptr h => exact .ptr (hg _ _ h)
  | nilSlice s => exact .nilSlice s
  | slice h hs hn he hr => exact .slice (hg _ _ h) hs hn he hr
  | emptySlice h hs he hr ha => exact .emptySlice (hg _ _ h) hs he hr ha
  | map h => exact .map (hg _ _ h)
  | func ha hc _ _ ih ik => exact .func ha hc ih ik
  | yield h => exact .yield (hg _ _ h)
  | iface _ ih => exact .iface ih
  | agg hs _ ih => exact .agg hs ih
  | tuple hs _ ih => exact .tuple hs ih

/-- Two lists, thing by thing. -/
def RelL (g : Ghost) (l l' : List Value) : Prop := l.length = l'.length ∧ ∀ (i : Nat) (v v' : Value), l[i]? = some v → l'[i]? = some v' → Rel g v v'

theorem RelL.nil (g : Ghost) : RelL g [] [] := ⟨rfl, fun i v v' h => by simp at h⟩
theorem RelL.cons {g : Ghost} {v v' : Value} {l l' : List Value} (h : Rel g v v') (k : RelL g l l') : RelL g (v :: l) (v' :: l') := by
  refine ⟨by simp [k.1], fun i u u' hu hu' => ?_⟩
  cases i with
  | zero => simp at hu hu'; subst hu; subst hu'; exact h
  | succ i => simp at hu hu'; exact k.2 i _ _ hu hu'
theorem RelL.head {g : Ghost} {v v' : Value} {l l' : List Value} (h : RelL g (v :: l) (v' :: l')) : Rel g v v' := h.2 0 _ _ (by simp) (by simp)
theorem RelL.tail {g : Ghost} {v v' : Value} {l l' : List Value} (h : RelL g (v :: l) (v' :: l')) : RelL g l l' :=
  ⟨by have := h.1; simpa using this, fun i u u' hu hu' => h.2 (i + 1) _ _ (by simpa using hu) (by simpa using hu')⟩
theorem RelL.mono {g g' : Ghost} (hg : g.le g') {l l' : List Value} (h : RelL g l l') : RelL g' l l' := ⟨h.1, fun i v v' a b => (h.2 i v v' a b).mono hg⟩
theorem RelL.append {g : Ghost} {a a' b b' : List Value} (h : RelL g a a') (k : RelL g b b') : RelL g (a ++ b) (a' ++ b') := by
  refine ⟨by simp [h.1, k.1], fun i u u' hu hu' => ?_⟩
  rw [List.getElem?_append] at hu hu'
  rw [← h.1] at hu'
  split at hu
  · rename_i hi; rw [if_pos hi] at hu'; exact h.2 i _ _ hu hu'
  · rename_i hi; rw [if_neg hi] at hu'; exact k.2 _ _ _ hu hu'
theorem RelL.take {g : Ghost} {a a' : List Value} (h : RelL g a a') (n : Nat) : RelL g (a.take n) (a'.take n) := by
  refine ⟨by simp [h.1], fun i u u' hu hu' => ?_⟩
  rw [List.getElem?_take] at hu hu'
  split at hu
  · rename_i hi; rw [if_pos hi] at hu'; exact h.2 i _ _ hu hu'
  · cases hu
theorem RelL.drop {g : Ghost} {a a' : List Value} (h : RelL g a a') (n : Nat) : RelL g (a.drop n) (a'.drop n) := by
  refine ⟨by simp [h.1], fun i u u' hu hu' => ?_⟩
  rw [List.getElem?_drop] at hu hu'
  exact h.2 _ _ _ hu hu'
theorem RelL.get {g : Ghost} {a a' : List Value} (h : RelL g a a') {i : Nat} {v : Value} (hv : a[i]? = some v) : ∃ v', a'[i]? = some v' ∧ Rel g v v' := by
  have hi : i < a.length := by
    rcases Nat.lt_or_ge i a.length with h | h
    · exact h
    · rw [List.getElem?_eq_none h] at hv; cases hv
  have hi' : i < a'.length := h.1 ▸ hi
  exact ⟨a'[i], by simp [hi'], h.2 i _ _ hv (by simp [hi'])⟩
theorem RelL.of_flat {g : Ghost} {l : List Value} (h : ∀ v ∈ l, Rel g v v) : RelL g l l :=
  ⟨rfl, fun i v v' a b => by rw [a] at b; cases b; exact h v (List.mem_of_getElem? a)⟩

theorem RelL.of_array {g : Ghost} {c c' : Array Value} (hs : c.size = c'.size) (h : ∀ (i : Nat) (h1 : i < c.size) (h2 : i < c'.size), Rel g c[i] c'[i]) : RelL g c.toList c'.toList := by
  refine ⟨by simpa using hs, fun i v v' a b => ?_⟩
  rcases Nat.lt_or_ge i c.size with hi | hi
  · have hi' : i < c'.size := hs ▸ hi
    simp [hi] at a
    simp [hi'] at b
    subst a; subst b
    exact h i hi hi'
  · simp [hi] at a
theorem RelL.array {g : Ghost} {c c' : Array Value} (h : RelL g c.toList c'.toList) : c.size = c'.size ∧ ∀ (i : Nat) (h1 : i < c.size) (h2 : i < c'.size), Rel g c[i] c'[i] :=
  ⟨by simpa using h.1, fun i h1 h2 => h.2 i _ _ (by simp [h1]) (by simp [h2])⟩
theorem Rel.agg_of {g : Ghost} {c c' : List Value} (h : RelL g c c') : Rel g (.agg c.toArray) (.agg c'.toArray) := by
  have := RelL.array (g := g) (c := c.toArray) (c' := c'.toArray) (by simpa using h)
  exact .agg this.1 this.2
theorem Rel.tuple_of {g : Ghost} {c c' : List Value} (h : RelL g c c') : Rel g (.tuple c.toArray) (.tuple c'.toArray) := by
  have := RelL.array (g := g) (c := c.toArray) (c' := c'.toArray) (by simpa using h)
  exact .tuple this.1 this.2

/-! Taking apart -/

theorem Rel.int {g : Ghost} {k : IntKind} {n : Int} {v : Value} (h : Rel g (.int k n) v) : v = .int k n := by cases h <;> rfl
theorem Rel.skip' {g : Ghost} {r : Nat} {v : Value} (h : Rel g (.chan (some r)) v) : v = undef := by
  generalize hx : Value.chan (some r) = x at h
  cases h with
  | skip => rfl
  | flat h => subst hx; simp [AM.flat] at h
  | _ => simp [AM.nothing] at hx
theorem Rel.bool {g : Ghost} {b : Bool} {v : Value} (h : Rel g (.bool b) v) : v = .bool b := by cases h <;> rfl
theorem Rel.string {g : Ghost} {s : ByteArray} {v : Value} (h : Rel g (.string s) v) : v = .string s := by cases h <;> rfl
theorem Rel.nilIface {g : Ghost} {v : Value} (h : Rel g .nilIface v) : v = .nilIface := by cases h <;> rfl
theorem Rel.nilFunc {g : Ghost} {v : Value} (h : Rel g .nilFunc v) : v = .nilFunc := by cases h <;> rfl
theorem Rel.nilMap {g : Ghost} {v : Value} (h : Rel g (.map none) v) : v = .map none := by cases h <;> rfl
theorem Rel.nilPtr {g : Ghost} {v : Value} (h : Rel g (.pointer none) v) : v = .pointer none := by cases h <;> rfl
theorem Rel.toAgg {g : Ghost} {c : Array Value} {v : Value} (h : Rel g (.agg c) v) : ∃ c', v = .agg c' ∧ RelL g c.toList c'.toList := by
  cases h with
  | flat h => simp [AM.flat] at h
  | agg hs h => exact ⟨_, rfl, .of_array hs h⟩
theorem Rel.toIface {g : Ghost} {t : TypeId} {x v : Value} (h : Rel g (.iface t x) v) : ∃ y, v = .iface t y ∧ Rel g x y := by
  cases h with
  | flat h => simp [AM.flat] at h
  | iface h => exact ⟨_, rfl, h⟩
theorem Rel.toPtr {g : Ghost} {id o : Nat} {v : Value} (h : Rel g (.pointer (some ⟨id, o, none⟩)) v) : ∃ G, g id = some G ∧ v = .pointer (some ⟨G.blk, G.off + o, none⟩) := by
  cases h with
  | flat h => simp [AM.flat] at h
  | ptr h => exact ⟨_, h, rfl⟩
theorem Rel.toMap {g : Ghost} {id : Nat} {v : Value} (h : Rel g (.map (some id)) v) : ∃ G, g id = some G ∧ v = .map (some G.blk) := by
  cases h with
  | flat h => simp [AM.flat] at h
  | map h => exact ⟨_, h, rfl⟩

/-- Values whose cells are themselves. -/
theorem Rel.cells {g : Ghost} {v v' : Value} (h : Rel g v v') (hn : isTuple v = false) : RelL g v.cells.toList v'.cells.toList := by
  have one : ∀ {x x' : Value}, Rel g x x' → RelL g [x] [x'] := fun h => .cons h (.nil g)
  cases h with
  | nothing v => simp [AM.nothing, isTuple] at hn
  | skip => simp [AM.skipped, isTuple] at hn
  | flat h => cases v <;> simp [AM.flat] at h <;> exact one (.flat (by simp [AM.flat, *]))
  | ptr h => exact one (.ptr h)
  | nilSlice s => exact one (.nilSlice s)
  | slice h hs hm he hr => exact one (.slice h hs hm he hr)
  | emptySlice h hs he hr ha => exact one (.emptySlice h hs he hr ha)
  | map h => exact one (.map h)
  | func ha hc h k => exact one (.func ha hc h k)
  | yield h => exact one (.yield h)
  | iface h => exact one (.iface h)
  | agg hs h => exact .of_array hs h
  | tuple hs h => simp [isTuple] at hn

/-- A cell's value is no aggregate on the other side, either. -/
theorem Rel.cellOk {g : Ghost} {v v' : Value} (h : Rel g v v') (hn : cellOk v = true) : v'.oneCell' = true := by
  cases h with
  | flat h => cases v <;> simp [AM.flat] at h <;> rfl
  | _ => first | rfl | simp [AM.cellOk, AM.nothing, AM.skipped] at hn

/-! ### The heap -/

def EnvRel (g : Ghost) (e : Env) (tmps : Array Value) : Prop := ∀ t, Rel g (e.at t) (tmps.getD t undef)

def pendRel : AExit → Option Code → Prop
  | .normal, c => c = none
  | .exit id, c => c = some (.exit id)
  | .ret, c => c = some .ret

def MapOk (g : Ghost) (es : List (Value × Value)) (ents : List MapEntry) : Prop :=
  es.length = ents.length ∧ ∀ (i : Nat) (q : Value × Value), es[i]? = some q → ∃ e : MapEntry, ents[i]? = some e ∧ e.key = q.1 ∧ Rel g q.2 e.val

def ObjOk (P : Program) (ro : Nat) (g : Ghost) (hp : Array Obj) (id : Nat) (G : Gh) : AObj → Prop
  | .cells xs => ∃ arr T fz, hp[G.blk]? = some (.cells arr T fz) ∧ G.off + G.room ≤ arr.size ∧ xs.length = G.ext ∧ G.ext ≤ G.room ∧
      RelL g xs ((arr.toList.drop G.off).take G.ext) ∧ (ro ≤ id → ∀ j, G.off ≤ j → j < G.off + G.room → (fz.1 ≤ j && j < fz.2) = false)
  | .map es => ∃ ents clock, hp[G.blk]? = some (.map ents clock) ∧ MapOk g es ents.toList
  | .strIter s pos => hp[G.blk]? = some (.stringIter s pos) ∧ G.off = 0
  | .loop e ps as bd st pd => ∃ l : Loop, hp[G.blk]? = some (.loop l) ∧ l.state = st ∧ pendRel pd l.pending ∧ EnvRel g e l.tmps ∧ l.params.toList = ps ∧
      (∀ t ∈ ps, t < l.tmps.size) ∧ Impl P l.tmps.size l.assign as ∧ Impl P l.tmps.size l.body bd
  | .dead => True

def AObj.live : AObj → Bool
  | .dead => false
  | _ => true

abbrev AHeap := Nat → Option AObj

def Owned (ro : Nat) (g : Ghost) (H : AHeap) (B : Nat) : Prop := ∃ id o G, H id = some o ∧ o.live = true ∧ ro ≤ id ∧ g id = some G ∧ G.blk = B

structure Rl (P : Program) (ro : Nat) (g : Ghost) (H : AHeap) (hp : Array Obj) : Prop where
  obj : ∀ id o, H id = some o → o.live = true → ∃ G, g id = some G ∧ ObjOk P ro g hp id G o
  inj : ∀ id id' o o' G G', H id = some o → o.live = true → H id' = some o' → o'.live = true → ro ≤ id → g id = some G → g id' = some G' → G.blk = G'.blk → id = id'
  glob : ∀ i, i < P.globals.size → ∃ G, g i = some G ∧ G.blk = i ∧ G.off = 0

theorem EnvRel.mono {g g' : Ghost} (hg : g.le g') {e : Env} {tmps : Array Value} (h : EnvRel g e tmps) : EnvRel g' e tmps := fun t => (h t).mono hg

theorem ObjOk.mono {P : Program} {ro : Nat} {g g' : Ghost} (hg : g.le g') {hp : Array Obj} {id : Nat} {G : Gh} {o : AObj} (h : ObjOk P ro g hp id G o) : ObjOk P ro g' hp id G o := by
  cases o with
  | cells xs => obtain ⟨arr, T, fz, h1, h2, h3, h4, h5, h6⟩ := h; exact ⟨arr, T, fz, h1, h2, h3, h4, h5.mono hg, h6⟩
  | map es =>
    obtain ⟨ents, clock, h1, h2, h3⟩ := h
    refine ⟨ents, clock, h1, h2, fun i q hq => ?_⟩
    obtain ⟨e, a, b, d⟩ := h3 i q hq
    exact ⟨e, a, b, d.mono hg⟩
  | strIter s pos => exact h
  | loop e ps as bd st pd => obtain ⟨l, h1, h2, h3, h4, h5⟩ := h; exact ⟨l, h1, h2, h3, h4.mono hg, h5⟩
  | dead => trivial

theorem ObjOk.block {P : Program} {ro : Nat} {g : Ghost} {hp hp' : Array Obj} {id : Nat} {G : Gh} {o : AObj} (e : hp'[G.blk]? = hp[G.blk]?) (h : ObjOk P ro g hp id G o) : ObjOk P ro g hp' id G o := by
  cases o <;> simp only [ObjOk, e] at h ⊢ <;> exact h

theorem ObjOk.lt {P : Program} {ro : Nat} {g : Ghost} {hp : Array Obj} {id : Nat} {G : Gh} {o : AObj} (h : ObjOk P ro g hp id G o) (hl : o.live = true) : G.blk < hp.size := by
  have : ∃ x, hp[G.blk]? = some x := by
    cases o with
    | cells xs => obtain ⟨arr, T, fz, h1, _⟩ := h; exact ⟨_, h1⟩
    | map es => obtain ⟨ents, clock, h1, _⟩ := h; exact ⟨_, h1⟩
    | strIter s pos => exact ⟨_, h.1⟩
    | loop e ps as bd st pd => obtain ⟨l, h1, _⟩ := h; exact ⟨_, h1⟩
    | dead => simp [AObj.live] at hl
  obtain ⟨x, hx⟩ := this
  exact (Array.getElem?_eq_some_iff.1 hx).1

/-- A step of the machine beside steps of the model. -/
structure Step (P : Program) (ro : Nat) (g : Ghost) (H : AHeap) (w : World) (g' : Ghost) (H' : AHeap) (w' : World) (lo hi : Nat) : Prop where
  rl : Rl P ro g' H' w'.heap
  ext : g.le g'
  only : ∀ id, ¬ (lo ≤ id ∧ id < hi) → g' id = g id
  size : w.heap.size ≤ w'.heap.size
  os : w'.os = w.os
  tape : w'.tape = w.tape
  output : w'.output = w.output
  frame : ∀ B, B < w.heap.size → ¬ Owned ro g H B → w'.heap[B]? = w.heap[B]?
  own : ∀ B, Owned ro g' H' B → Owned ro g H B ∨ w.heap.size ≤ B

section
variable {P : Program} {ro : Nat} {g g' g'' : Ghost} {H H' H'' : AHeap} {w w' w'' : World} {lo mid hi : Nat}

theorem Step.refl (h : Rl P ro g H w.heap) (lo hi : Nat) : Step P ro g H w g H w lo hi :=
  ⟨h, g.le_refl, fun _ _ => rfl, Nat.le_refl _, rfl, rfl, rfl, fun _ _ _ => rfl, fun _ h => .inl h⟩

theorem Step.trans (h : Step P ro g H w g' H' w' lo mid) (k : Step P ro g' H' w' g'' H'' w'' mid hi) (h1 : lo ≤ mid) (h2 : mid ≤ hi) : Step P ro g H w g'' H'' w'' lo hi where
  rl := k.rl
  ext := Ghost.le_trans h.ext k.ext
  only := fun id hn => (k.only id (by omega)).trans (h.only id (by omega))
  size := Nat.le_trans h.size k.size
  os := k.os.trans h.os
  tape := k.tape.trans h.tape
  output := k.output.trans h.output
  frame := fun B hB hn => (k.frame B (Nat.lt_of_lt_of_le hB h.size) (fun ho => (h.own B ho).elim hn (by omega))).trans (h.frame B hB hn)
  own := fun B ho => (k.own B ho).elim (fun ho => h.own B ho) (fun hs => .inr (Nat.le_trans h.size hs))

theorem Step.wider (h : Step P ro g H w g' H' w' lo mid) {lo' hi' : Nat} (h1 : lo' ≤ lo) (h2 : mid ≤ hi') : Step P ro g H w g' H' w' lo' hi' :=
  { h with only := fun id hn => h.only id (by omega) }

/-- Nothing but draws. -/
theorem Step.drawn (h : Rl P ro g H w.heap) (e : w'.heap = w.heap) (os : w'.os = w.os) (tape : w'.tape = w.tape) (output : w'.output = w.output) (lo hi : Nat) : Step P ro g H w g H w' lo hi :=
  ⟨e ▸ h, g.le_refl, fun _ _ => rfl, by rw [e]; exact Nat.le_refl _, os, tape, output, fun _ _ _ => by rw [e], fun _ h => .inl h⟩

def Ghost.put (g : Ghost) (id : Nat) (G : Gh) : Ghost := fun j => if j = id then some G else g j
theorem Ghost.put_same (g : Ghost) (id : Nat) (G : Gh) : g.put id G id = some G := by simp [Ghost.put]
theorem Ghost.put_ne (g : Ghost) {id j : Nat} (G : Gh) (h : j ≠ id) : g.put id G j = g j := by simp [Ghost.put, h]
theorem Ghost.le_put {g : Ghost} {id : Nat} (h : g id = none) (G : Gh) : g.le (g.put id G) := fun j K e => by
  by_cases hj : j = id
  · subst hj; rw [h] at e; cases e
  · rw [Ghost.put_ne g G hj]; exact e

def upd (H : AHeap) (id : Nat) (o : AObj) : AHeap := fun j => if j = id then some o else H j
theorem upd_same (H : AHeap) (id : Nat) (o : AObj) : upd H id o id = some o := by simp [upd]
theorem upd_ne (H : AHeap) {id j : Nat} (o : AObj) (h : j ≠ id) : upd H id o j = H j := by simp [upd, h]

theorem St.get_put (st : St) (id : Nat) (o : AObj) : (st.put id o).get = upd st.get id o := by
  funext j; simp [St.get, St.put, Tr.get_set, upd]
theorem St.get_alloc (st : St) (o : AObj) : (st.alloc o).get = upd st.get st.next o := by
  funext j; simp [St.get, St.alloc, Tr.get_set, upd]

/-- A new block. -/
theorem Step.alloc (h : Rl P ro g H w.heap) {id : Nat} (hid : g id = none) {o : AObj} {ob : Obj} {G : Gh} (hb : G.blk = w.heap.size)
    (hw : w'.heap = w.heap.push ob) (os : w'.os = w.os) (tape : w'.tape = w.tape) (output : w'.output = w.output)
    (ho : ObjOk P ro (g.put id G) w'.heap id G o) : Step P ro g H w (g.put id G) (upd H id o) w' id (id + 1) := by
  have hle := Ghost.le_put hid G
  have hold : ∀ B, B < w.heap.size → w'.heap[B]? = w.heap[B]? := fun B hB => by rw [hw, Array.getElem?_push, if_neg (by omega)]
  refine ⟨⟨?_, ?_, ?_⟩, hle, ?_, ?_, os, tape, output, fun B hB _ => hold B hB, ?_⟩
  · intro j p hj hl
    by_cases e : j = id
    · subst e
      rw [upd_same] at hj; cases hj
      exact ⟨G, g.put_same _ G, ho⟩
    · rw [upd_ne H o e] at hj
      obtain ⟨K, hK, hok⟩ := h.obj j p hj hl
      exact ⟨K, hle _ _ hK, (hok.mono hle).block (hold _ (hok.lt hl))⟩
  · intro j j' p p' K K' hj hl hj' hl' hro hK hK' e
    by_cases e1 : j = id
    · by_cases e2 : j' = id
      · omega
      · rw [upd_ne H o e2] at hj'
        rw [Ghost.put_ne g G e2] at hK'
        subst e1
        rw [Ghost.put_same] at hK; cases hK
        obtain ⟨K2, hK2, hok⟩ := h.obj j' p' hj' hl'
        rw [hK2] at hK'; cases hK'
        have := hok.lt hl'; omega
    · rw [upd_ne H o e1] at hj
      rw [Ghost.put_ne g G e1] at hK
      by_cases e2 : j' = id
      · subst e2
        rw [Ghost.put_same] at hK'; cases hK'
        obtain ⟨K2, hK2, hok⟩ := h.obj j p hj hl
        rw [hK2] at hK; cases hK
        have := hok.lt hl; omega
      · rw [upd_ne H o e2] at hj'
        rw [Ghost.put_ne g G e2] at hK'
        exact h.inj j j' p p' K K' hj hl hj' hl' hro hK hK' e
  · intro i hi
    obtain ⟨K, a, b, c⟩ := h.glob i hi
    exact ⟨K, hle _ _ a, b, c⟩
  · intro j hj
    exact g.put_ne G (by omega)
  · rw [hw]; simp
  · rintro B ⟨j, p, K, hj, hl, hro, hK, e⟩
    by_cases e1 : j = id
    · subst e1; rw [Ghost.put_same] at hK; cases hK; exact .inr (by omega)
    · rw [upd_ne H o e1] at hj
      rw [Ghost.put_ne g G e1] at hK
      exact .inl ⟨j, p, K, hj, hl, hro, hK, e⟩

/-- A block of the call's own, changed. -/
theorem Step.change (h : Rl P ro g H w.heap) {id : Nat} {o o' : AObj} {G : Gh} (hid : H id = some o) (hl : o.live = true) (hro : ro ≤ id) (hG : g id = some G)
    (hsz : w'.heap.size = w.heap.size) (hw : ∀ B, B ≠ G.blk → w'.heap[B]? = w.heap[B]?) (os : w'.os = w.os) (tape : w'.tape = w.tape) (output : w'.output = w.output)
    (ho : o'.live = true → ObjOk P ro g w'.heap id G o') (lo hi : Nat) : Step P ro g H w g (upd H id o') w' lo hi := by
  refine ⟨⟨?_, ?_, h.glob⟩, g.le_refl, fun _ _ => rfl, by omega, os, tape, output, ?_, ?_⟩
  · intro j p hj hlp
    by_cases e : j = id
    · subst e
      rw [upd_same] at hj; cases hj
      exact ⟨G, hG, ho hlp⟩
    · rw [upd_ne H o' e] at hj
      obtain ⟨K, hK, hok⟩ := h.obj j p hj hlp
      refine ⟨K, hK, hok.block (hw _ fun eb => e ?_)⟩
      exact (h.inj id j o p G K hid hl hj hlp hro hG hK eb.symm).symm
  · intro j j' p p' K K' hj hlj hj' hlj' hroj hK hK' e
    have aux : ∀ {i q}, upd H id o' i = some q → q.live = true → ∃ q', H i = some q' ∧ q'.live = true := by
      intro i q hi hq
      by_cases e : i = id
      · subst e; exact ⟨o, hid, hl⟩
      · rw [upd_ne H o' e] at hi; exact ⟨q, hi, hq⟩
    obtain ⟨q, hq, hql⟩ := aux hj hlj
    obtain ⟨q', hq', hql'⟩ := aux hj' hlj'
    exact h.inj j j' q q' K K' hq hql hq' hql' hroj hK hK' e
  · intro B hB hn
    exact hw B fun e => hn ⟨id, o, G, hid, hl, hro, hG, e.symm⟩
  · rintro B ⟨j, p, K, hj, hlp, hroj, hK, e⟩
    by_cases e1 : j = id
    · subst e1; exact .inl ⟨j, o, K, hid, hl, hroj, hK, e⟩
    · rw [upd_ne H o' e1] at hj
      exact .inl ⟨j, p, K, hj, hlp, hroj, hK, e⟩
end

end Go.AM
