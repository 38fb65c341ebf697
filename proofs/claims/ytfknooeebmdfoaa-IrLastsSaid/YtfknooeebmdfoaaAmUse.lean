/-
  THE ABSTRACT MACHINE, 29: how its operations go on known values; states that only grow.
-/
import Derived.Test.YtfknooeebmdfoaaAmSh
import Derived.IntWalk
set_option linter.unusedVariables false
namespace Go.AM

/-- What was there is as it was. -/
structure Ext (st st' : St) : Prop where
  next : st.next ≤ st'.next
  ro : st'.ro = st.ro
  get : ∀ id, id < st.next → st'.get id = st.get id

theorem Ext.refl (st : St) : Ext st st := ⟨Nat.le_refl _, rfl, fun _ _ => rfl⟩
theorem Ext.trans {a b c : St} (h : Ext a b) (k : Ext b c) : Ext a c :=
  ⟨Nat.le_trans h.next k.next, k.ro.trans h.ro, fun id hi => (k.get id (Nat.lt_of_lt_of_le hi h.next)).trans (h.get id hi)⟩

theorem get_alloc (st : St) (o : AObj) (id : Nat) : (st.alloc o).get id = if id = st.next then some o else st.get id := by rw [St.get_alloc]; rfl
theorem get_put (st : St) (i : Nat) (o : AObj) (id : Nat) : (st.put i o).get id = if id = i then some o else st.get id := by rw [St.get_put]; rfl
@[simp] theorem next_alloc (st : St) (o : AObj) : (st.alloc o).next = st.next + 1 := rfl
@[simp] theorem next_put (st : St) (i : Nat) (o : AObj) : (st.put i o).next = st.next := rfl
@[simp] theorem ro_alloc (st : St) (o : AObj) : (st.alloc o).ro = st.ro := rfl
@[simp] theorem ro_put (st : St) (i : Nat) (o : AObj) : (st.put i o).ro = st.ro := rfl

theorem Ext.alloc {a b : St} (h : Ext a b) (o : AObj) : Ext a (b.alloc o) :=
  ⟨Nat.le_succ_of_le h.next, h.ro, fun id hi => by rw [get_alloc, if_neg (by have := h.next; omega)]; exact h.get id hi⟩
theorem Ext.put {a b : St} (h : Ext a b) {i : Nat} (hi : a.next ≤ i) (o : AObj) : Ext a (b.put i o) :=
  ⟨h.next, h.ro, fun id hd => by rw [get_put, if_neg (by omega)]; exact h.get id hd⟩

abbrev I (n : Int) : Value := .int .i64 n
abbrev U (n : Int) : Value := .int .u8 n
abbrev B (b : Bool) : Value := .bool b
abbrev Sl (b o n s : Nat) : Value := .slice (some ⟨b, o, none⟩) n s

section
variable {st : St}
@[simp] theorem cells_eq {b : Nat} {xs : List Value} (h : st.get b = some (.cells xs)) : st.cells b = .ok xs := by simp [St.cells, h]
theorem load1_eq {b o : Nat} {xs : List Value} {v : Value} (h : st.get b = some (.cells xs)) (hv : xs[o]? = some v) : st.load1 b o = .ok v := by simp [St.load1, cells_eq h, hv]

@[simp] theorem gd_skip (b : Bool) : gd skipped b = .ok false := rfl
@[simp] theorem gd_eq (c b : Bool) : gd (.bool c) b = .ok (c == b) := rfl
@[simp] theorem condX_eq {R : Type} (c : Bool) (a b : Res R) : condX (.bool c) a b = bif c then a else b := rfl
@[simp] theorem sNew_eq (z : List Value) : sNew z st = .ok (P st.next 0, st.alloc (.cells z)) := rfl
@[simp] theorem sBox_agg (cs : Array Value) : sBox (.agg cs) st = .ok (P st.next 0, st.alloc (.cells cs.toList)) := rfl
@[simp] theorem sBox_int (k : IntKind) (n : Int) : sBox (.int k n) st = .ok (P st.next 0, st.alloc (.cells [.int k n])) := rfl
@[simp] theorem sBox_bool (b : Bool) : sBox (.bool b) st = .ok (P st.next 0, st.alloc (.cells [.bool b])) := rfl
@[simp] theorem sBox_string (t : ByteArray) : sBox (.string t) st = .ok (P st.next 0, st.alloc (.cells [.string t])) := rfl
@[simp] theorem sBox_slice (a : Option Addr) (n c : Nat) : sBox (.slice a n c) st = .ok (P st.next 0, st.alloc (.cells [.slice a n c])) := rfl
@[simp] theorem sBox_ptr (a : Option Addr) : sBox (.pointer a) st = .ok (P st.next 0, st.alloc (.cells [.pointer a])) := rfl
@[simp] theorem sBox_map (a : Option Nat) : sBox (.map a) st = .ok (P st.next 0, st.alloc (.cells [.map a])) := rfl
@[simp] theorem sBox_func (f : Fn) (a c : Array Value) : sBox (.func f a c) st = .ok (P st.next 0, st.alloc (.cells [.func f a c])) := rfl
@[simp] theorem sOff_eq (n b o : Nat) : sOff n (P b o) st = .ok (P b (o + n), st) := rfl
@[simp] theorem sLoad1 (b o : Nat) : sLoad none (P b o) st = (st.load1 b o >>= fun v => .ok (v, st)) := rfl
@[simp] theorem sLoadN (n b o : Nat) : sLoad (some n) (P b o) st = (st.loadN b o n >>= fun l => .ok (.agg l.toArray, st)) := rfl
@[simp] theorem sStore_agg (n b o : Nat) (cs : Array Value) : sStore n (P b o) (.agg cs) st = (Res.need (cs.size = n) "store: size" >>= fun _ => st.storeN b o cs.toList >>= fun s => .ok (nothing, s)) := rfl
@[simp] theorem sStore_int (n b o : Nat) (k : IntKind) (x : Int) : sStore n (P b o) (.int k x) st = (Res.need (1 = n) "store: size" >>= fun _ => st.storeN b o [.int k x] >>= fun s => .ok (nothing, s)) := rfl
@[simp] theorem sStore_bool (n b o : Nat) (x : Bool) : sStore n (P b o) (.bool x) st = (Res.need (1 = n) "store: size" >>= fun _ => st.storeN b o [.bool x] >>= fun s => .ok (nothing, s)) := rfl
@[simp] theorem sStore_string (n b o : Nat) (x : ByteArray) : sStore n (P b o) (.string x) st = (Res.need (1 = n) "store: size" >>= fun _ => st.storeN b o [.string x] >>= fun s => .ok (nothing, s)) := rfl
@[simp] theorem sStore_slice (n b o : Nat) (a : Option Addr) (m c : Nat) : sStore n (P b o) (.slice a m c) st = (Res.need (1 = n) "store: size" >>= fun _ => st.storeN b o [.slice a m c] >>= fun s => .ok (nothing, s)) := rfl
@[simp] theorem sStore_ptr (n b o : Nat) (a : Option Addr) : sStore n (P b o) (.pointer a) st = (Res.need (1 = n) "store: size" >>= fun _ => st.storeN b o [.pointer a] >>= fun s => .ok (nothing, s)) := rfl
@[simp] theorem sStore_map (n b o : Nat) (a : Option Nat) : sStore n (P b o) (.map a) st = (Res.need (1 = n) "store: size" >>= fun _ => st.storeN b o [.map a] >>= fun s => .ok (nothing, s)) := rfl
@[simp] theorem sStore_func (n b o : Nat) (f : Fn) (a c : Array Value) : sStore n (P b o) (.func f a c) st = (Res.need (1 = n) "store: size" >>= fun _ => st.storeN b o [.func f a c] >>= fun s => .ok (nothing, s)) := rfl
@[simp] theorem sPick_eq (c : Bool) (a b : Value) : sPick (.bool c) a b st = .ok (if c then a else b, st) := rfl
@[simp] theorem sUn_not (b : Bool) : sUn .not (.bool b) st = .ok (.bool !b, st) := rfl
@[simp] theorem sLen_slice (a : Option Addr) (n c : Nat) : sLen .slice (.slice a n c) st = .ok (goInt n, st) := rfl
@[simp] theorem sLen_str (t : ByteArray) : sLen .str (.string t) st = .ok (goInt t.size, st) := rfl
@[simp] theorem sExtract_eq (vs : Array Value) (i : Nat) : sExtract (.tuple vs) i st = (Res.of vs[i]? "extract" >>= fun v => .ok (v, st)) := rfl
@[simp] theorem sEql (k : IntKind) (x y : Int) : sBin .eql (.int k x) (.int k y) st = .ok (.bool (decide (x = y)), st) := by simp [sBin, abin, aint]; rfl
@[simp] theorem sNeq (k : IntKind) (x y : Int) : sBin .neq (.int k x) (.int k y) st = .ok (.bool (!decide (x = y)), st) := by simp [sBin, abin, aint]; rfl
@[simp] theorem sLss (k : IntKind) (x y : Int) : sBin .lss (.int k x) (.int k y) st = .ok (.bool (decide (x < y)), st) := by simp [sBin, abin, aint]
@[simp] theorem sLeq (k : IntKind) (x y : Int) : sBin .leq (.int k x) (.int k y) st = .ok (.bool (decide (x ≤ y)), st) := by simp [sBin, abin, aint]
@[simp] theorem sGtr (k : IntKind) (x y : Int) : sBin .gtr (.int k x) (.int k y) st = .ok (.bool (decide (y < x)), st) := by simp [sBin, abin, aint]
@[simp] theorem sGeq (k : IntKind) (x y : Int) : sBin .geq (.int k x) (.int k y) st = .ok (.bool (decide (y ≤ x)), st) := by simp [sBin, abin, aint]
@[simp] theorem sAdd (k : IntKind) (x y : Int) : sBin .add (.int k x) (.int k y) st = .ok (.int k (k.wrap (x + y)), st) := by simp [sBin, abin, aint]
@[simp] theorem sSub (k : IntKind) (x y : Int) : sBin .sub (.int k x) (.int k y) st = .ok (.int k (k.wrap (x - y)), st) := by simp [sBin, abin, aint]
@[simp] theorem sMul (k : IntKind) (x y : Int) : sBin .mul (.int k x) (.int k y) st = .ok (.int k (k.wrap (x * y)), st) := by simp [sBin, abin, aint]
@[simp] theorem sRem (k : IntKind) (x y : Int) (h : y ≠ 0) : sBin .rem (.int k x) (.int k y) st = .ok (.int k (x.tmod y), st) := by simp [sBin, abin, aint, h]
@[simp] theorem sConv_int (k k' : IntKind) (n : Int) : sConv (.int k) (.int k' n) st = .ok (.int k (k.wrap n), st) := rfl
end

theorem load1_def (st : St) (b o : Nat) : st.load1 b o = (match st.get b with | some (.cells xs) => Res.of xs[o]? "no such cell" | _ => .err "no such cells") := by
  unfold St.load1 St.cells
  split <;> simp_all
theorem loadN_def (st : St) (b o n : Nat) : st.loadN b o n = (match st.get b with | some (.cells xs) => (Res.need (o + n ≤ xs.length) "cells: too far" >>= fun _ => .ok ((xs.drop o).take n)) | _ => .err "no such cells") := by
  unfold St.loadN St.cells
  split <;> simp_all
theorem storeN_def (st : St) (b o : Nat) (vs : List Value) : st.storeN b o vs = (match st.get b with
    | some (.cells xs) => (Res.need (st.ro ≤ b) "store: what came in" >>= fun _ => Res.need (o + vs.length ≤ xs.length) "store: too far" >>= fun _ => Res.need (vs.all cellOk) "store: no cell's value" >>= fun _ => .ok (st.put b (.cells (splice xs o vs))))
    | _ => .err "no such cells") := by
  unfold St.storeN St.cells
  split <;> simp_all

/-! ### Slices that are read -/

/-- Blocks below a number; from one on up to another. -/
def Bel (n : Nat) (id : Nat) : Prop := id < n
def Rng (a b : Nat) (id : Nat) : Prop := a ≤ id ∧ id < b

/-- Of these blocks each is as it was. -/
def Agree (A : Nat → Prop) (st st' : St) : Prop := ∀ id, A id → st'.get id = st.get id
theorem Agree.refl (A : Nat → Prop) (st : St) : Agree A st st := fun _ _ => rfl
theorem Agree.trans {A : Nat → Prop} {a b c : St} (h : Agree A a b) (k : Agree A b c) : Agree A a c := fun id hi => (k id hi).trans (h id hi)
theorem Agree.alloc {A : Nat → Prop} {a b : St} (h : Agree A a b) (o : AObj) (hn : ¬ A b.next) : Agree A a (b.alloc o) := fun id hi => by
  rw [get_alloc, if_neg (fun (e : id = b.next) => hn (e ▸ hi))]; exact h id hi
theorem Agree.put {A : Nat → Prop} {a b : St} (h : Agree A a b) {i : Nat} (hn : ¬ A i) (o : AObj) : Agree A a (b.put i o) := fun id hi => by
  rw [get_put, if_neg (fun (e : id = i) => hn (e ▸ hi))]; exact h id hi
theorem Ext.agree {a b : St} (h : Ext a b) {A : Nat → Prop} (hA : ∀ id, A id → id < a.next) : Agree A a b := fun id hi => h.get id (hA id hi)
theorem Ext.bel {a b : St} (h : Ext a b) : Agree (Bel a.next) a b := h.agree fun _ h => h

/-- v is a slice of things, each of s cells, in these blocks. -/
def RSl {α : Type} (A : Nat → Prop) (st : St) (s : Nat) (R : List Value → α → Prop) (v : Value) (l : List α) : Prop :=
  (l = [] ∧ ∃ c, v = .slice none 0 c) ∨
  ∃ b o xs, v = Sl b o l.length s ∧ A b ∧ st.get b = some (.cells xs) ∧ o + l.length * s ≤ xs.length ∧ ∀ i x, l[i]? = some x → R ((xs.drop (o + i * s)).take s) x

theorem RSl.nil {α : Type} (A : Nat → Prop) (st : St) (s : Nat) (R : List Value → α → Prop) (c : Nat) : RSl A st s R (.slice none 0 c) [] := .inl ⟨rfl, c, rfl⟩

theorem RSl.mono {α : Type} {A A' : Nat → Prop} {st st' : St} {s : Nat} {R R' : List Value → α → Prop} {v : Value} {l : List α} (h : RSl A st s R v l) (hA : ∀ id, A id → A' id) (hE : Agree A st st') (hR : ∀ cs x, x ∈ l → R cs x → R' cs x) : RSl A' st' s R' v l := by
  rcases h with h | ⟨b, o, xs, h1, h2, h3, h4, h5⟩
  · exact .inl h
  · exact .inr ⟨b, o, xs, h1, hA b h2, by rw [hE b h2]; exact h3, h4, fun i x hx => hR _ _ (List.mem_of_getElem? hx) (h5 i x hx)⟩

theorem RSl.len {α : Type} {A : Nat → Prop} {st : St} {s : Nat} {R : List Value → α → Prop} {v : Value} {l : List α} (h : RSl A st s R v l) (st' : St) : sLen .slice v st' = .ok (I l.length, st') := by
  rcases h with ⟨rfl, c, rfl⟩ | ⟨b, o, xs, rfl, _⟩
  · rfl
  · rfl
theorem RSl.cell {α : Type} {A : Nat → Prop} {st : St} {s : Nat} {R : List Value → α → Prop} {v : Value} {l : List α} (h : RSl A st s R v l) : cellOk v = true := by
  rcases h with ⟨rfl, c, rfl⟩ | ⟨b, o, xs, rfl, _⟩ <;> rfl

/-- One of them is looked at. -/
theorem RSl.at {α : Type} {A : Nat → Prop} {st : St} {s : Nat} {R : List Value → α → Prop} {v : Value} {l : List α} (h : RSl A st s R v l) {i : Nat} {x : α} (hx : l[i]? = some x) :
    ∃ b o cs, (∀ st', sIxA s none v (I i) st' = .ok (P b o, st')) ∧ (∀ st', Agree A st st' → st'.loadN b o s = .ok cs) ∧ R cs x ∧ cs.length = s ∧ A b ∧
      (∀ st' k y, Agree A st st' → cs[k]? = some y → st'.load1 b (o + k) = .ok y) := by
  have hi : i < l.length := (List.getElem?_eq_some_iff.1 hx).1
  rcases h with ⟨rfl, c, rfl⟩ | ⟨b, o, xs, rfl, h2, h3, h4, h5⟩
  · simp at hx
  · have hle : o + i * s + s ≤ xs.length := by
      have : i * s + s ≤ l.length * s := by rw [← Nat.succ_mul]; exact Nat.mul_le_mul_right s hi
      omega
    have hlen : ((xs.drop (o + i * s)).take s).length = s := by rw [List.length_take, List.length_drop]; omega
    refine ⟨b, o + i * s, _, fun st' => ?_, fun st' hE => ?_, h5 i x hx, hlen, h2, fun st' k y hE hy => ?_⟩
    · simp [sIxA, index, Res.need, hi]
    · rw [loadN_def, hE b h2, h3]
      simp [Res.need, hle]
    · have hk : k < s := by
        have := (List.getElem?_eq_some_iff.1 hy).1
        omega
      rw [load1_def, hE b h2, h3]
      simp only []
      have : xs[o + i * s + k]? = some y := by
        rw [List.getElem?_take, if_pos hk, List.getElem?_drop] at hy
        exact hy
      rw [this]; rfl

/-- A slice of single cells: one of them is looked at. -/
theorem RSl.at1 {α : Type} {A : Nat → Prop} {st : St} {f : α → Value} {v : Value} {l : List α} (h : RSl A st 1 (fun cs x => cs = [f x]) v l) {i : Nat} {x : α} (hx : l[i]? = some x) :
    ∃ b o, (∀ st', sIxA 1 none v (I i) st' = .ok (P b o, st')) ∧ (∀ st', Agree A st st' → st'.load1 b o = .ok (f x)) ∧ A b := by
  obtain ⟨b, o, cs, h1, _, rfl, _, h4, h5⟩ := h.at hx
  exact ⟨b, o, h1, fun st' hE => h5 st' 0 _ hE rfl, h4⟩

theorem wrap_id {n : Int} (h : -9223372036854775808 ≤ n ∧ n ≤ 9223372036854775807) : IntKind.i64.wrap n = n := Go.IntWalk.i64_in n h
attribute [simp] load1_def storeN_def get_alloc get_put ok_ok
theorem need_dec {p : Prop} [Decidable p] (h : p) (s : String) : Res.need (decide p) s = .ok () := by simp [Res.need, h]
theorem Ext.roOk {st st' : St} (h : Ext st st') (k : st.ro ≤ st.next) : st'.ro ≤ st'.next := by rw [h.ro]; exact Nat.le_trans k h.next
attribute [simp] splice Value.cells
@[simp] theorem cellOk_int (k : IntKind) (n : Int) : cellOk (.int k n) = true := rfl
@[simp] theorem cellOk_bool (b : Bool) : cellOk (.bool b) = true := rfl
@[simp] theorem cellOk_string (t : ByteArray) : cellOk (.string t) = true := rfl
@[simp] theorem cellOk_slice (a : Option Addr) (n c : Nat) : cellOk (.slice a n c) = true := rfl
@[simp] theorem cellOk_ptr (a : Option Addr) : cellOk (.pointer a) = true := rfl
@[simp] theorem cellOk_map (a : Option Nat) : cellOk (.map a) = true := rfl
@[simp] theorem cellOk_func (f : Fn) (a c : Array Value) : cellOk (.func f a c) = true := rfl
@[simp] theorem Res.bind_assoc' {α β γ : Type} (x : Res α) (f : α → Res β) (g : β → Res γ) : ((x >>= f) >>= g) = (x >>= fun a => f a >>= g) := by cases x <;> rfl
end Go.AM
