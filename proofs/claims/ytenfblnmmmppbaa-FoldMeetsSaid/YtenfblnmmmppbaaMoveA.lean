/-
  THE ABSTRACT MACHINE, 40: a run elsewhere: what a run comes to, from nothing, it comes to behind whatever is there. Values, operations.
-/
import Derived.Test.YtenfblnmmmppbaaRun
set_option linter.unusedVariables false
set_option linter.unusedSectionVars false
set_option linter.unusedSimpArgs false
namespace Go.AM

def mvF (d : Nat) : Fn → Fn
  | .yield l => .yield (l + d)
  | f => f
mutual
/-- The same value, all addresses d further. -/
def mv (d : Nat) : Value → Value
  | .pointer (some ⟨b, o, x⟩) => .pointer (some ⟨b + d, o, x⟩)
  | .slice (some ⟨b, o, x⟩) n c => .slice (some ⟨b + d, o, x⟩) n c
  | .map (some r) => .map (some (r + d))
  | .func f a c => .func (mvF d f) (mvA d a) (mvA d c)
  | .iface t v => .iface t (mv d v)
  | .agg cs => .agg (mvA d cs)
  | .tuple cs => .tuple (mvA d cs)
  | v => v
def mvA (d : Nat) : Array Value → Array Value
  | ⟨l⟩ => ⟨mvL d l⟩
def mvL (d : Nat) : List Value → List Value
  | [] => []
  | v :: l => mv d v :: mvL d l
end

section
variable {d : Nat}
@[simp] theorem mv_bool (b : Bool) : mv d (.bool b) = .bool b := rfl
@[simp] theorem mv_int (k : IntKind) (n : Int) : mv d (.int k n) = .int k n := rfl
@[simp] theorem mv_float (k : FloatKind) (n : Nat) : mv d (.float k n) = .float k n := rfl
@[simp] theorem mv_complex (k : FloatKind) (n m : Nat) : mv d (.complex k n m) = .complex k n m := rfl
@[simp] theorem mv_string (s : ByteArray) : mv d (.string s) = .string s := rfl
@[simp] theorem mv_ptr0 : mv d (.pointer none) = .pointer none := rfl
@[simp] theorem mv_ptr (b o : Nat) (x : Option Nat) : mv d (.pointer (some ⟨b, o, x⟩)) = .pointer (some ⟨b + d, o, x⟩) := rfl
@[simp] theorem mv_slice0 (n c : Nat) : mv d (.slice none n c) = .slice none n c := rfl
@[simp] theorem mv_slice (b o : Nat) (x : Option Nat) (n c : Nat) : mv d (.slice (some ⟨b, o, x⟩) n c) = .slice (some ⟨b + d, o, x⟩) n c := rfl
@[simp] theorem mv_map0 : mv d (.map none) = .map none := rfl
@[simp] theorem mv_map (r : Nat) : mv d (.map (some r)) = .map (some (r + d)) := rfl
@[simp] theorem mv_chan (r : Option Nat) : mv d (.chan r) = .chan r := by cases r <;> rfl
@[simp] theorem mv_nilFunc : mv d .nilFunc = .nilFunc := rfl
@[simp] theorem mv_nilIface : mv d .nilIface = .nilIface := rfl
@[simp] theorem mv_iface (t : TypeId) (v : Value) : mv d (.iface t v) = .iface t (mv d v) := rfl
@[simp] theorem mv_func (f : Fn) (a c : Array Value) : mv d (.func f a c) = .func (mvF d f) (mvA d a) (mvA d c) := rfl
@[simp] theorem mv_agg (c : Array Value) : mv d (.agg c) = .agg (mvA d c) := rfl
@[simp] theorem mv_tuple (c : Array Value) : mv d (.tuple c) = .tuple (mvA d c) := rfl
theorem mvL_eq : ∀ (l : List Value), mvL d l = l.map (mv d) := by
  intro l
  induction l with
  | nil => rfl
  | cons v l ih => show mv d v :: mvL d l = _; rw [ih]; rfl
@[simp] theorem mvA_list (a : Array Value) : (mvA d a).toList = a.toList.map (mv d) := by obtain ⟨l⟩ := a; exact mvL_eq l
@[simp] theorem mvA_mk (l : List Value) : mvA d l.toArray = (l.map (mv d)).toArray := by
  show (⟨mvL d l⟩ : Array Value) = _
  rw [mvL_eq]
@[simp] theorem mvA_size (a : Array Value) : (mvA d a).size = a.size := by
  rw [← Array.length_toList, mvA_list, List.length_map, Array.length_toList]
@[simp] theorem mvA_get (a : Array Value) (i : Nat) : (mvA d a)[i]? = a[i]?.map (mv d) := by
  rw [← Array.getElem?_toList, mvA_list, List.getElem?_map, Array.getElem?_toList]
@[simp] theorem mvF_func (f : FuncId) : mvF d (.func f) = .func f := rfl
@[simp] theorem mvF_yield (l : Nat) : mvF d (.yield l) = .yield (l + d) := rfl
end

/-- What holds no address. -/
theorem mv_flat {d : Nat} {v : Value} (h : flat v = true) : mv d v = v := by
  unfold flat at h
  split at h <;> first | rfl | (cases h)
theorem mv_cellConst {d : Nat} {v : Value} (h : cellConst v = true) : mv d v = v := by
  cases v with
  | slice a n c =>
    simp [cellConst] at h
    obtain ⟨⟨rfl, rfl⟩, rfl⟩ := h
    rfl
  | _ => exact mv_flat h
theorem mv_cells {d : Nat} : ∀ {l : List Value}, l.all cellConst = true → l.map (mv d) = l := by
  intro l
  induction l with
  | nil => intro _; rfl
  | cons v l ih =>
    intro h
    simp only [List.all_cons, Bool.and_eq_true] at h
    rw [List.map_cons, mv_cellConst h.1, ih h.2]
theorem mv_const {d : Nat} {v : Value} (h : constOk v = true) : mv d v = v := by
  cases v with
  | tuple cs =>
    simp [constOk] at h
    subst h
    rfl
  | agg cs =>
    have h : cs.toList.all cellConst = true := h
    obtain ⟨l⟩ := cs
    show Value.agg (mvA d l.toArray) = _
    rw [mvA_mk, mv_cells h]
  | _ => exact mv_cellConst h

def mapR {α β : Type} (f : α → β) : Res α → Res β
  | .ok a => .ok (f a)
  | .err s => .err s
section
variable {α β γ : Type}
@[simp] theorem mapR_ok (f : α → β) (a : α) : mapR f (.ok a) = .ok (f a) := rfl
@[simp] theorem mapR_err (f : α → β) (s : String) : mapR f (.err s) = .err s := rfl
theorem mapR_bind (f : β → γ) (x : Res α) (k : α → Res β) : mapR f (x >>= k) = x >>= fun a => mapR f (k a) := by cases x <;> rfl
theorem bind_mapR (f : α → β) (x : Res α) (k : β → Res γ) : mapR f x >>= k = x >>= fun a => k (f a) := by cases x <;> rfl
theorem mapR_if (f : α → β) (c : Prop) [Decidable c] (x y : Res α) : mapR f (if c then x else y) = if c then mapR f x else mapR f y := by split <;> rfl
theorem mapR_of (f : α → β) (x : Option α) (s : String) : mapR f (Res.of x s) = Res.of (x.map f) s := by cases x <;> rfl
end

/-! ### values -/
section
variable {d : Nat}
@[simp] theorem isTuple_mv (v : Value) : isTuple (mv d v) = isTuple v := by
  cases v with
  | pointer a => rcases a with _ | ⟨b, o, x⟩ <;> rfl
  | slice a n c => rcases a with _ | ⟨b, o, x⟩ <;> rfl
  | map a => cases a <;> rfl
  | chan a => cases a <;> rfl
  | _ => rfl
@[simp] theorem cellOk_mv (v : Value) : cellOk (mv d v) = cellOk v := by
  cases v with
  | pointer a => rcases a with _ | ⟨b, o, x⟩ <;> rfl
  | slice a n c => rcases a with _ | ⟨b, o, x⟩ <;> rfl
  | map a => cases a <;> rfl
  | chan a => cases a <;> rfl
  | _ => rfl
@[simp] theorem all_cellOk_mv (l : List Value) : (l.map (mv d)).all cellOk = l.all cellOk := by
  rw [List.all_map]; congr 1; funext v; exact cellOk_mv v
theorem cells_mv (v : Value) : (mv d v).cells = mvA d v.cells := by
  cases v with
  | pointer a => rcases a with _ | ⟨b, o, x⟩ <;> rfl
  | slice a n c => rcases a with _ | ⟨b, o, x⟩ <;> rfl
  | map a => cases a <;> rfl
  | chan a => cases a <;> rfl
  | _ => rfl
@[simp] theorem cellsL_mv (v : Value) : (mv d v).cells.toList = v.cells.toList.map (mv d) := by rw [cells_mv, mvA_list]
@[simp] theorem cellsN_mv (v : Value) : (mv d v).cells.size = v.cells.size := by rw [cells_mv, mvA_size]
theorem asPtr_mv (v : Value) : asPtr (mv d v) = mapR (fun p => (p.1 + d, p.2)) (asPtr v) := by
  cases v with
  | pointer a => rcases a with _ | ⟨b, o, x⟩ <;> first | rfl | (cases x <;> rfl)
  | slice a n c => rcases a with _ | ⟨b, o, x⟩ <;> rfl
  | map a => cases a <;> rfl
  | chan a => cases a <;> rfl
  | _ => rfl
theorem splice_mv (xs : List Value) (o : Nat) (vs : List Value) : splice (xs.map (mv d)) o (vs.map (mv d)) = (splice xs o vs).map (mv d) := by
  simp [splice, List.map_take, List.map_drop]
theorem fillL_mv : ∀ (ps : List (Nat × Nat × Value)) (zs : List Value), fillL (zs.map (mv d)) (ps.map fun p => (p.1, p.2.1, mv d p.2.2)) = mapR (List.map (mv d)) (fillL zs ps) := by
  intro ps
  induction ps with
  | nil => intro zs; rfl
  | cons p ps ih =>
    intro zs
    obtain ⟨o, n, v⟩ := p
    simp only [List.map_cons, fillL, isTuple_mv, cellsN_mv, List.length_map, cellsL_mv, splice_mv, ih, mapR_bind]
theorem aint_mv (op : BinOp) (k : IntKind) (x y : Int) : mapR (mv d) (aint op k x y) = aint op k x y := by
  unfold aint
  split <;> first | rfl | (split <;> rfl)
theorem ashift_mv (op : BinOp) (k : IntKind) (x y : Int) : mapR (mv d) (ashift op k x y) = ashift op k x y := by
  unfold ashift
  split
  · rfl
  · split <;> rfl
theorem astr_mv (op : BinOp) (x y : ByteArray) : mapR (mv d) (astr op x y) = astr op x y := by
  unfold astr
  simp only []
  split <;> first | rfl | (split <;> rfl)
/-- What no address is told from. -/
theorem mv_intI {v : Value} {k : IntKind} {n : Int} (h : mv d v = .int k n) : v = .int k n := by
  cases v with
  | pointer a => rcases a with _ | ⟨b, o, x⟩ <;> cases h
  | slice a n c => rcases a with _ | ⟨b, o, x⟩ <;> cases h
  | map a => cases a <;> cases h
  | chan a => cases a <;> cases h
  | int k n => exact h
  | _ => cases h
theorem abin_mv (op : BinOp) (x y : Value) : abin op (mv d x) (mv d y) = mapR (mv d) (abin op x y) := by
  have hi : ∀ k a k' b, mapR (mv d) (abin op (.int k a) (.int k' b)) = abin op (.int k a) (.int k' b) := fun k a k' b => by
    unfold abin
    simp only []
    split
    · exact ashift_mv _ _ _ _
    · exact ashift_mv _ _ _ _
    · split
      · exact aint_mv _ _ _ _
      · rfl
  cases x with
  | int k a =>
    cases y with
    | int k' b => exact (hi k a k' b).symm
    | pointer a => rcases a with _ | ⟨b, o, x⟩ <;> rfl
    | slice a n c => rcases a with _ | ⟨b, o, x⟩ <;> rfl
    | map a => cases a <;> rfl
    | chan a => cases a <;> rfl
    | _ => rfl
  | string a =>
    cases y with
    | string b => exact (astr_mv _ _ _).symm
    | pointer a => rcases a with _ | ⟨b, o, x⟩ <;> rfl
    | slice a n c => rcases a with _ | ⟨b, o, x⟩ <;> rfl
    | map a => cases a <;> rfl
    | chan a => cases a <;> rfl
    | _ => rfl
  | pointer a => rcases a with _ | ⟨b, o, x⟩ <;> rfl
  | slice a n c => rcases a with _ | ⟨b, o, x⟩ <;> rfl
  | map a => cases a <;> rfl
  | chan a => cases a <;> rfl
  | _ => rfl
theorem cellEq_mv (k : CellK) (x y : Value) : cellEq k (mv d x) (mv d y) = cellEq k x y := by
  have hy : ∀ (z : Value), (∀ b, z ≠ .bool b) → (∀ q n, z ≠ .int q n) → (∀ s, z ≠ .string s) → ∀ k w, cellEq k z w = none := fun z h1 h2 h3 k w => by
    unfold cellEq
    split
    · exact absurd rfl (h2 _ _)
    · exact absurd rfl (h3 _)
    · exact absurd rfl (h1 _)
    · rfl
  have hz : ∀ (z : Value), (∀ b, z ≠ .bool b) → (∀ q n, z ≠ .int q n) → (∀ s, z ≠ .string s) → ∀ k w, cellEq k w z = none := fun z h1 h2 h3 k w => by
    unfold cellEq
    split
    · exact absurd rfl (h2 _ _)
    · exact absurd rfl (h3 _)
    · exact absurd rfl (h1 _)
    · rfl
  have key : ∀ z : Value, (mv d z = z) ∨ ((∀ b, z ≠ .bool b) ∧ (∀ q n, z ≠ .int q n) ∧ (∀ s, z ≠ .string s) ∧ (∀ b, mv d z ≠ .bool b) ∧ (∀ q n, mv d z ≠ .int q n) ∧ ∀ s, mv d z ≠ .string s) := fun z => by
    cases z with
    | pointer a => rcases a with _ | ⟨b, o, x⟩ <;> first | exact .inl rfl | (refine .inr ⟨?_, ?_, ?_, ?_, ?_, ?_⟩ <;> (intros; simp))
    | slice a n c => rcases a with _ | ⟨b, o, x⟩ <;> first | exact .inl rfl | (refine .inr ⟨?_, ?_, ?_, ?_, ?_, ?_⟩ <;> (intros; simp))
    | map a => cases a <;> first | exact .inl rfl | (refine .inr ⟨?_, ?_, ?_, ?_, ?_, ?_⟩ <;> (intros; simp))
    | chan a => exact .inl (mv_chan a)
    | func f a c => refine .inr ⟨?_, ?_, ?_, ?_, ?_, ?_⟩ <;> (intros; simp)
    | iface t v => refine .inr ⟨?_, ?_, ?_, ?_, ?_, ?_⟩ <;> (intros; simp)
    | agg c => refine .inr ⟨?_, ?_, ?_, ?_, ?_, ?_⟩ <;> (intros; simp)
    | tuple c => refine .inr ⟨?_, ?_, ?_, ?_, ?_, ?_⟩ <;> (intros; simp)
    | _ => exact .inl rfl
  rcases key x with e | ⟨a1, a2, a3, a4, a5, a6⟩
  · rcases key y with e2 | ⟨b1, b2, b3, b4, b5, b6⟩
    · rw [e, e2]
    · rw [hz _ b1 b2 b3, hz _ b4 b5 b6]
  · rw [hy _ a1 a2 a3, hy _ a4 a5 a6]
theorem fieldsEq_mv (xs ys : List Value) : ∀ (l : List (Nat × CellK)), fieldsEq (xs.map (mv d)) (ys.map (mv d)) l = fieldsEq xs ys l := by
  intro l
  induction l with
  | nil => rfl
  | cons p l ih =>
    obtain ⟨o, k⟩ := p
    simp only [fieldsEq, List.getElem?_map]
    cases xs[o]? with
    | none => rfl
    | some x =>
      cases ys[o]? with
      | none => rfl
      | some y =>
        simp only [Option.map_some, cellEq_mv, ih]
theorem isNil_mv (k : NilK) (v : Value) : isNil k (mv d v) = isNil k v := by
  cases v with
  | pointer a => rcases a with _ | ⟨b, o, x⟩ <;> cases k <;> rfl
  | slice a n c => rcases a with _ | ⟨b, o, x⟩ <;> cases k <;> rfl
  | map a => cases a <;> cases k <;> rfl
  | chan a => cases a <;> cases k <;> rfl
  | _ => cases k <;> rfl
theorem aeq_mv (k : EqK) (x y : Value) : aeq k (mv d x) (mv d y) = aeq k x y := by
  cases k with
  | bools =>
    have h := cellEq_mv (d := d) .bool x y
    have e : ∀ x y : Value, aeq .bools x y = Res.of (cellEq .bool x y) "==: bools" := fun x y => by
      unfold aeq cellEq
      cases x <;> first | rfl | (cases y <;> rfl)
    rw [e, e, h]
  | nilOf k => simp only [aeq, isNil_mv]
  | fields l =>
    cases x with
    | agg xs =>
      cases y with
      | agg ys => simp only [aeq, mv_agg, mvA_list, fieldsEq_mv]
      | pointer a => rcases a with _ | ⟨b, o, x⟩ <;> rfl
      | slice a n c => rcases a with _ | ⟨b, o, x⟩ <;> rfl
      | map a => cases a <;> rfl
      | chan a => cases a <;> rfl
      | _ => rfl
    | pointer a => rcases a with _ | ⟨b, o, x⟩ <;> rfl
    | slice a n c => rcases a with _ | ⟨b, o, x⟩ <;> rfl
    | map a => cases a <;> rfl
    | chan a => cases a <;> rfl
    | _ => rfl
theorem aun_mv (op : UnOp) (x : Value) : aun op (mv d x) = mapR (mv d) (aun op x) := by
  cases x with
  | pointer a => rcases a with _ | ⟨b, o, x⟩ <;> cases op <;> rfl
  | slice a n c => rcases a with _ | ⟨b, o, x⟩ <;> cases op <;> rfl
  | map a => cases a <;> cases op <;> rfl
  | chan a => cases a <;> cases op <;> rfl
  | _ => cases op <;> rfl
theorem lenL_mv (x : Value) : lenL (mv d x) = lenL x := by
  cases x with
  | pointer a => rcases a with _ | ⟨b, o, x⟩ <;> rfl
  | slice a n c => rcases a with _ | ⟨b, o, x⟩ <;> rfl
  | map a => cases a <;> rfl
  | chan a => cases a <;> rfl
  | _ => rfl
theorem cellIs_mv (k : CellK) (x : Value) : cellIs k (mv d x) = cellIs k x := by
  cases x with
  | pointer a => rcases a with _ | ⟨b, o, x⟩ <;> cases k <;> rfl
  | slice a n c => rcases a with _ | ⟨b, o, x⟩ <;> cases k <;> rfl
  | map a => cases a <;> cases k <;> rfl
  | chan a => cases a <;> cases k <;> rfl
  | _ => cases k <;> rfl
theorem keyOk_mv (q : KeyK) (x : Value) : keyOk q (mv d x) = keyOk q x := by
  cases q with
  | cell k => exact cellIs_mv k x
  | struct l =>
    cases x with
    | agg cs =>
      simp only [keyOk, mv_agg, mvA_size, mvA_list, List.getElem?_map]
      congr 1
      refine List.all_congr rfl fun p => ?_
      obtain ⟨o, k⟩ := p
      cases cs.toList[o]? with
      | none => rfl
      | some c => exact cellIs_mv k c
    | pointer a => rcases a with _ | ⟨b, o, x⟩ <;> rfl
    | slice a n c => rcases a with _ | ⟨b, o, x⟩ <;> rfl
    | map a => cases a <;> rfl
    | chan a => cases a <;> rfl
    | _ => rfl
theorem keyEq_mv (q : KeyK) (x y : Value) : keyEq q (mv d x) (mv d y) = keyEq q x y := by
  cases q with
  | cell k => exact cellEq_mv k x y
  | struct l =>
    cases x with
    | agg xs =>
      cases y with
      | agg ys => simp only [keyEq, mv_agg, mvA_size, mvA_list, fieldsEq_mv]
      | pointer a => rcases a with _ | ⟨b, o, x⟩ <;> rfl
      | slice a n c => rcases a with _ | ⟨b, o, x⟩ <;> rfl
      | map a => cases a <;> rfl
      | chan a => cases a <;> rfl
      | _ => rfl
    | pointer a => rcases a with _ | ⟨b, o, x⟩ <;> rfl
    | slice a n c => rcases a with _ | ⟨b, o, x⟩ <;> rfl
    | map a => cases a <;> rfl
    | chan a => cases a <;> rfl
    | _ => rfl
def mvP (d : Nat) (p : Value × Value) : Value × Value := (mv d p.1, mv d p.2)
theorem findK_mv (q : KeyK) (k : Value) : ∀ (es : List (Value × Value)) (i : Nat), findK q (mv d k) (es.map (mvP d)) i = mapR (Option.map fun p => (p.1, mv d p.2)) (findK q k es i) := by
  intro es
  induction es with
  | nil => intro i; rfl
  | cons e es ih =>
    intro i
    obtain ⟨u, v⟩ := e
    have e1 : findK q (mv d k) ((mv d u, mv d v) :: es.map (mvP d)) i = (match keyEq q (mv d k) (mv d u) with | some true => .ok (some (i, mv d v)) | some false => findK q (mv d k) (es.map (mvP d)) (i + 1) | none => .err "map: keys of two kinds") := rfl
    have e2 : findK q k ((u, v) :: es) i = (match keyEq q k u with | some true => .ok (some (i, v)) | some false => findK q k es (i + 1) | none => .err "map: keys of two kinds") := rfl
    rw [List.map_cons, mvP, e1, e2, keyEq_mv]
    cases keyEq q k u with
    | none => rfl
    | some b =>
      cases b with
      | true => rfl
      | false => exact ih (i + 1)
theorem bound_mv (x : Value) (n : Nat) : bound (mv d x) n = bound x n := by
  cases x with
  | pointer a => rcases a with _ | ⟨b, o, x⟩ <;> rfl
  | slice a n c => rcases a with _ | ⟨b, o, x⟩ <;> rfl
  | map a => cases a <;> rfl
  | chan a => cases a <;> rfl
  | _ => rfl
theorem boundO_mv (x : Option Value) (n k : Nat) : boundO (x.map (mv d)) n k = boundO x n k := by
  cases x with
  | none => rfl
  | some x => exact bound_mv x n
theorem index_mv (x : Value) (n : Nat) : index (mv d x) n = index x n := by
  cases x with
  | pointer a => rcases a with _ | ⟨b, o, x⟩ <;> rfl
  | slice a n c => rcases a with _ | ⟨b, o, x⟩ <;> rfl
  | map a => cases a <;> rfl
  | chan a => cases a <;> rfl
  | _ => rfl
theorem part_mv (n : Option Nat) (cs : List Value) (o : Nat) : part n (cs.map (mv d)) o = mapR (mv d) (part n cs o) := by
  cases n with
  | none => simp only [part, List.getElem?_map, mapR_of]
  | some n =>
    simp only [part, List.length_map, mapR_bind, Res.pure_eq, mapR_ok, mv_agg, mvA_mk, List.map_take, List.map_drop]
theorem bytesL_mv : ∀ (l : List Value) (r : ByteArray), bytesL (l.map (mv d)) r = bytesL l r := by
  intro l
  induction l with
  | nil => intro r; rfl
  | cons v l ih =>
    intro r
    cases v with
    | int k n => cases k <;> first | rfl | exact ih _
    | pointer a => rcases a with _ | ⟨b, o, x⟩ <;> rfl
    | slice a n c => rcases a with _ | ⟨b, o, x⟩ <;> rfl
    | map a => cases a <;> rfl
    | chan a => cases a <;> rfl
    | _ => rfl
theorem minmax2_mv (m : Bool) (x y : Value) : minmax2 m (mv d x) (mv d y) = mapR (mv d) (minmax2 m x y) := by
  cases x with
  | int k a =>
    cases y with
    | int k' b =>
      simp only [minmax2, mv_int, mapR_if, mapR_ok, mapR_err]
    | pointer a => rcases a with _ | ⟨b, o, x⟩ <;> rfl
    | slice a n c => rcases a with _ | ⟨b, o, x⟩ <;> rfl
    | map a => cases a <;> rfl
    | chan a => cases a <;> rfl
    | _ => rfl
  | pointer a => rcases a with _ | ⟨b, o, x⟩ <;> rfl
  | slice a n c => rcases a with _ | ⟨b, o, x⟩ <;> rfl
  | map a => cases a <;> rfl
  | chan a => cases a <;> rfl
  | _ => rfl
theorem minmaxL_mv (m : Bool) : ∀ (ys : List Value) (x : Value), minmaxL m (mv d x) (ys.map (mv d)) = mapR (mv d) (minmaxL m x ys) := by
  intro ys
  induction ys with
  | nil => intro x; rfl
  | cons y ys ih =>
    intro x
    simp only [List.map_cons, minmaxL, minmax2_mv, bind_mapR, mapR_bind, ih]
theorem zerosL_mv {z : List Value} (h : z.map (mv d) = z) : ∀ n, (zerosL z n).map (mv d) = zerosL z n := by
  intro n
  induction n with
  | zero => rfl
  | succ n ih => simp only [zerosL, List.map_append, h, ih]
end
end Go.AM

