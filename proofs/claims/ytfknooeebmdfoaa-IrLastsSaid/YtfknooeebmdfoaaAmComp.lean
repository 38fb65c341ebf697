/-
  THE ABSTRACT MACHINE, 2: a function of the model, its types looked up: the machine's code. What the machine does not know becomes 'bad', which comes to nothing.
-/
import Derived.Test.YtfknooeebmdfoaaAmCore
set_option linter.unusedVariables false
namespace Go.AM

def AOp.bad : AOp := .call (.const .nilIface) []

def szOf (P : Program) (t : TypeId) : Option Nat := match P.info? t with | some i => if i.size = 0 then none else some i.size | none => none
def bytesOf (P : Program) (t : TypeId) : Option Nat := (P.info? t).map (·.bytes)
def zeroOf (P : Program) (t : TypeId) : Option Value := match P.info? t with | some i => (match i.zero with | some z => if constOk z && !isTuple z then some z else none | none => none) | none => none

/-- An aggregate's size; none: one cell. -/
def aggOf (P : Program) (t : TypeId) : Option (Option Nat) :=
  match P.underlying t with
  | some (.struct _) | some (.array _ _) => (szOf P t).map some
  | some _ => some none
  | none => none

def cellKind (P : Program) (t : TypeId) : Option CellK :=
  match P.underlying t with
  | some (.int _) => some .int
  | some .string => some .str
  | some .bool => some .bool
  | _ => none

/-- The offsets of the fields of a struct of cells. -/
def cellFields (P : Program) : List Field → Option (List (Nat × CellK))
  | [] => some []
  | f :: fs =>
    if f.name = "_" then none else
    match cellKind P f.type, cellFields P fs with
    | some k, some l => some ((f.offset, k) :: l)
    | _, _ => none

def keyType (P : Program) (t : TypeId) : Option KeyK :=
  match P.underlying t with
  | some (.int _) => some (.cell .int)
  | some .string => some (.cell .str)
  | some .bool => some (.cell .bool)
  | some (.struct fs) =>
    if P.stoodInHeld t then none else
    match cellFields P fs.toList with
    | some l => if l.map (·.1) = List.range l.length then some (.struct l) else none
    | none => none
  | _ => none

def isNilConst : Operand → Bool
  | .const .nilIface => true
  | _ => false

def compEq (P : Program) (neg : Bool) (op : BinOp) (t : TypeId) (x y : Operand) : AOp :=
  match P.underlying t with
  | some (.int _) | some .string => .bin op x y
  | some .bool => .eq neg .bools x y
  | some (.pointer _) => .eq neg (.nilOf .ptr) x y
  | some (.slice _) => .eq neg (.nilOf .slice) x y
  | some (.map _ _) => .eq neg (.nilOf .map) x y
  | some (.func _ _ _) => .eq neg (.nilOf .func) x y
  | some (.interface _) => if isNilConst x || isNilConst y then .eq neg (.nilOf .iface) x y else .bad
  | some (.struct fs) =>
    if P.eqGuardType P.depth t || P.stoodInHeld t then .bad else
    match cellFields P fs.toList with
    | some os => .eq neg (.fields os) x y
    | none => .bad
  | _ => .bad

def compBin (P : Program) (op : BinOp) (t : TypeId) (x y : Operand) : AOp :=
  match op with
  | .eql => compEq P false .eql t x y
  | .neq => compEq P true .neq t x y
  | op =>
    match P.underlying t with
    | some (.int _) | some .string => .bin op x y
    | _ => .bad

def compConv (P : Program) (src dst : TypeId) (x : Operand) : AOp :=
  match P.underlying src, P.underlying dst with
  | some (.int _), some (.int k) => .conv (.int k) x
  | some .string, some .string => .conv .same x
  | some .string, some (.slice e) => match P.underlying e with | some (.int .u8) => .conv .bytesOfStr x | _ => .bad
  | some (.slice e), some .string => match P.underlying e with | some (.int .u8) => .conv .strOfBytes x | _ => .bad
  | _, _ => .bad

def compParts (places : List (Nat × Nat)) (ps : List (Nat × Operand)) : Option (List (Nat × Nat × Operand)) :=
  ps.mapM fun (i, x) => (places[i]?).map fun (o, n) => (o, n, x)

def rowParts (s : Nat) (ps : List (Nat × Operand)) : List (Nat × Nat × Operand) := ps.map fun (i, x) => (i * s, s, x)

def compBuiltin (P : Program) (b : Builtin) (args : List Operand) (ts : List TypeId) : AOp :=
  match b, args, ts with
  | .len, [x], [t] =>
    match P.underlying t with
    | some .string => .len .str x
    | some (.slice _) => .len .slice x
    | some (.array n _) => .len (.const n) x
    | some (.pointer a) => match P.underlying a with | some (.array n _) => .len (.const n) x | _ => .bad
    | some (.map _ _) => .len .map x
    | _ => .bad
  | .append, [x, y], [t, u] =>
    match P.underlying t, P.underlying u with
    | some (.slice e), some (.slice _) | some (.slice e), some .string =>
      match szOf P e, bytesOf P e, zeroOf P e with
      | some s, some b, some z => if b = 0 || z.cells.size != s then .bad else .append s b x y
      | _, _, _ => .bad
    | _, _ => .bad
  | .copy, [x, y], [t, _] =>
    match P.underlying t with
    | some (.slice e) => match szOf P e with | some s => .copy s x y | none => .bad
    | _ => .bad
  | .clear, [x], [t] =>
    match P.underlying t with
    | some (.slice e) => match zeroOf P e with | some z => .clear z.cells.toList x | none => .bad
    | _ => .bad
  | .delete, [x, k], t :: _ =>
    match P.underlying t with
    | some (.map kt _) => match keyType P kt with | some q => .delete q x k | none => .bad
    | _ => .bad
  | .max, x :: ys, _ => .minmax true x ys
  | .min, x :: ys, _ => .minmax false x ys
  | _, _, _ => .bad

def compOp (P : Program) (o : Oper) : AOp :=
  match o.op with
  | .move x | .assign x => .mv x
  | .pick c a b => .pick c a b
  | .alloc e => match zeroOf P e with | some z => .new z.cells.toList | none => .bad
  | .box _ x => .box x
  | .build t ps =>
    match P.underlying t, zeroOf P t with
    | some (.struct fs), some z =>
      match fs.toList.mapM (fun f => (szOf P f.type).map fun n => (f.offset, n)) with
      | some places => match compParts places ps.toList with | some ps => .build z.cells.toList ps | none => .bad
      | none => .bad
    | some (.array _ e), some z => match szOf P e with | some s => .build z.cells.toList (rowParts s ps.toList) | none => .bad
    | _, _ => .bad
  | .buildSlice t n ps =>
    match P.underlying t with
    | some (.slice e) =>
      match szOf P e, zeroOf P e with
      | some s, some z => if n * s ≤ 2 ^ 24 && z.cells.size = s then .lit s n (zerosL z.cells.toList n) (rowParts s ps.toList) else .bad
      | _, _ => .bad
    | _ => .bad
  | .load t a => match aggOf P t with | some n => .load n a | none => .bad
  | .store t a x => match szOf P t with | some n => .store n a x | none => .bad
  | .nilCheck x => .nilc x
  | .binOp op t x y _ => compBin P op t x y
  | .unOp op _ x => .un op x
  | .convert s d x => compConv P s d x
  | .makeInterface t x => match P.underlying t with | some (.interface _) => .bad | some _ => .iface t x | none => .bad
  | .makeFunc (.func f) a b => .fn f a.toList b.toList
  | .makeMap _ none => .newMap
  | .makeSlice t l c =>
    match P.underlying t with
    | some (.slice e) =>
      match szOf P e, bytesOf P e, zeroOf P e with
      | some s, some b, some z => if z.cells.size = s then .mkSlice s b z.cells.toList l c else .bad
      | _, _, _ => .bad
    | _ => .bad
  | .slice t x lo hi mx =>
    match P.underlying t with
    | some .string => .slice .str x lo hi mx
    | some (.slice e) => match szOf P e with | some s => .slice (.slice s) x lo hi mx | none => .bad
    | some (.array n e) => match szOf P e with | some s => .slice (.arr n s) x lo hi mx | none => .bad
    | some (.pointer a) =>
      match P.underlying a with
      | some (.array n e) => match szOf P e with | some s => .slice (.arr n s) x lo hi mx | none => .bad
      | _ => .bad
    | _ => .bad
  | .fieldAddr s x f =>
    match P.underlying s with
    | some (.struct fs) =>
      match fs[f]? with
      | some fl => match szOf P fl.type with | some _ => .off fl.offset x | none => .bad
      | none => .bad
    | _ => .bad
  | .field t x f =>
    match P.underlying t with
    | some (.struct fs) =>
      match fs[f]? with
      | some fl => match aggOf P fl.type with | some n => .field n fl.offset x | none => .bad
      | none => .bad
    | _ => .bad
  | .indexAddr t x i =>
    match P.underlying t with
    | some (.slice e) => match szOf P e with | some s => .ixA s none x i | none => .bad
    | some (.array n e) => match szOf P e with | some s => .ixA s (some n) x i | none => .bad
    | _ => .bad
  | .index t x i =>
    match P.underlying t with
    | some .string => .ixS x i
    | some (.array n e) => match szOf P e, aggOf P e with | some s, some m => .ixV m s n x i | _, _ => .bad
    | _ => .bad
  | .lookup t x k ok =>
    match P.underlying t with
    | some (.map kt e) => match zeroOf P e, keyType P kt with | some z, some q => .look q z ok x k | _, _ => .bad
    | _ => .bad
  | .mapUpdate t m k v | .insert t m k v =>
    match P.underlying t with
    | some (.map kt _) => match keyType P kt with | some q => .mapSet q m k v | none => .bad
    | _ => .bad
  | .range t x => match P.underlying t with | some .string => .rangeStr x | _ => .bad
  | .next it true => .nextStr it
  | .typeAssert x _ t ok =>
    match P.underlying t with
    | some (.interface _) => .bad
    | some _ => match zeroOf P t with | some z => .assert t z ok x | none => .bad
    | none => .bad
  | .extract x i => .extract x i
  | .call c =>
    match c.callee with
    | .builtin b => compBuiltin P b c.args.toList c.argTypes.toList
    | .value f => .call f c.args.toList
    | .invoke _ _ => .bad
  | _ => .bad

/-! ### Regions -/

def compGuard (ops : Array Oper) (g : Option (Nat × Bool)) : Option (Option (Tmp × Bool)) :=
  match g with
  | none => some none
  | some (j, b) => match (ops[j]?).bind (·.dst) with | some t => some (some (t, b)) | none => none

/-- Every slot that is written is one of the function's. -/
def dstOk (n : Nat) (d : Option Tmp) : Bool := match d with | some t => t < n | none => true

/-- A variable of the package's is one of the program's. -/
def opdOk (P : Program) (x : Operand) : Bool := match x with | .global i => i < P.globals.size | _ => true

def compOper (P : Program) (ops : Array Oper) (n : Nat) (o : Oper) : AOper :=
  match compGuard ops o.guard with
  | some g => if dstOk n o.dst && o.op.operands.toList.all (opdOk P) then { dst := o.dst, guard := g, op := compOp P o } else { dst := none, guard := none, op := .bad }
  | none => { dst := none, guard := none, op := .bad }

def AOp.isPure : AOp → Bool
  | .mv _ | .pick _ _ _ | .build _ _ | .nilc _ | .bin _ _ _ | .eq _ _ _ _ | .un _ _ | .conv .same _ | .conv (.int _) _ | .iface _ _ | .fn _ _ _
  | .off _ _ | .field _ _ _ | .ixA _ _ _ _ | .ixS _ _ | .ixV _ _ _ _ _ | .assert _ _ _ _ | .extract _ _ | .len .str _ | .len .slice _ | .len (.const _) _
  | .minmax _ _ _ | .slice .str _ _ _ _ => true
  | _ => false

def AOp.isLook : AOp → Bool
  | .load _ _ | .look _ _ _ _ _ | .len .map _ | .slice (.slice _) _ _ _ _ | .slice (.arr _ _) _ _ _ _ => true
  | _ => false

def AOp.isAlloc : AOp → Bool
  | .new _ | .box _ | .lit _ _ _ _ | .newMap | .mkSlice _ _ _ _ _ => true
  | _ => false

/-- Edges that bind in every mode. -/
def preds (o : Oper) : List Nat := (o.after.toList.filter (Region.binds .any)).map (·.on)

def ancF (ops : List Oper) : Nat → Nat → List Nat
  | 0, _ => []
  | f + 1, i => match ops[i]? with
    | some o => (preds o).flatMap fun j => j :: ancF ops f j
    | none => []

def dedup : List Nat → List Nat
  | [] => []
  | x :: l => if l.contains x then dedup l else x :: dedup l

/-- All ancestors, of each: by going through the list once (edges go back). -/
def ancsL : List Oper → List (List Nat) → List (List Nat)
  | [], acc => acc
  | o :: l, acc => ancsL l (acc ++ [dedup ((preds o).flatMap fun j => j :: (acc[j]?).getD [])])

def ancs (ops : List Oper) : List (List Nat) := ancsL ops []

def sortIns (x : Nat) : List Nat → List Nat
  | [] => [x]
  | y :: l => if x ≤ y then x :: y :: l else y :: sortIns x l
def sortL (l : List Nat) : List Nat := l.foldr sortIns []

/-- The order in which the machine goes: ahead of each that writes just what it needs. -/
def lazyOrder (n : Nat) (anc : List (List Nat)) (writes : Nat → Bool) : List Nat :=
  let ws := (List.range n).filter writes
  let upTo := ws.foldl (fun (l : List Nat) w => l ++ (sortL (((anc[w]?).getD []).filter fun i => !l.contains i)) ++ [w]) []
  upTo ++ (List.range n).filter fun i => !upTo.contains i

def backs (anc : List (List Nat)) (writes : Nat → Bool) (l : List Nat) (x : Nat) : Nat :=
  ((l.takeWhile (· != x)).filter fun j => writes j && !((anc[x]?).getD []).contains j).length

def compDraw (P : Program) (ops : Array Oper) (n : Nat) : List DOper :=
  let ol := ops.toList
  let anc := ancs ol
  let as := ol.map (compOper P ops n)
  let writes := fun i => match as[i]? with | some a => !(a.op.isPure || a.op.isLook || a.op.isAlloc) | none => true
  let order := lazyOrder ol.length anc writes
  order.map fun i => { ix := i, back := (match as[i]? with | some a => if a.op.isLook then backs anc writes order i else 0 | none => 0), writes := writes i, o := (as[i]?).getD { dst := none, guard := none, op := .bad } }

def tmpOf : Operand → Option Nat
  | .tmp t => some t
  | _ => none

def readsOf (ops : List Oper) (d : DOper) : List Nat :=
  (match ops[d.ix]? with | some o => o.op.operands.toList.filterMap tmpOf | none => []) ++ (match d.o.guard with | some (t, _) => [t] | none => [])

def clash (ops : List Oper) (dst : Option Tmp) (d : DOper) : Bool := match dst with | some t => (readsOf ops d).contains t | none => false

/-- May this one come next, behind those? -/
def okD (ops : List Oper) (anc : List Nat) (seen : List DOper) (d : DOper) : Bool :=
  (match ops[d.ix]? with | some o => (preds o).all fun j => seen.any fun s => s.ix == j | none => false) &&
  seen.all (fun s => s.ix != d.ix && (!d.writes || anc.contains s.ix) && (match d.o.dst with | some t => s.o.dst != some t | none => true) &&
    (anc.contains s.ix || !(clash ops s.o.dst d || clash ops d.o.dst s))) &&
  (!d.o.op.isLook || decide (seen.countP (fun s => s.writes && !anc.contains s.ix) ≤ d.back))

def okL (ops : List Oper) (anc : List (List Nat)) : List DOper → List DOper → Bool
  | _, [] => true
  | seen, d :: l => okD ops ((anc[d.ix]?).getD []) seen d && okL ops anc (d :: seen) l

def okDraw (P : Program) (ops : Array Oper) (n : Nat) : Bool :=
  let l := compDraw P ops n
  (List.range ops.size).all (fun i => l.any fun d => d.ix == i) && okL ops.toList (ancs ops.toList) [] l

/-! ### What is read later: just that is kept where ways meet. -/

def insT (x : Nat) : List Nat → List Nat
  | [] => [x]
  | y :: l => if Nat.ble x y then (if Nat.beq x y then y :: l else x :: y :: l) else y :: insT x l
def unionT (a b : List Nat) : List Nat := a.foldr insT b
def dropT (x : Nat) (l : List Nat) : List Nat := l.filter fun y => !Nat.beq x y

def opdT : Operand → List Tmp
  | .tmp t => [t]
  | _ => []
def opdO : Option Operand → List Tmp
  | some x => opdT x
  | none => []
def opdL (l : List Operand) : List Tmp := l.flatMap opdT

def AOp.reads : AOp → List Tmp
  | .mv x | .box x | .nilc x | .un _ x | .conv _ x | .iface _ x | .off _ x | .field _ _ x | .rangeStr x | .nextStr x | .assert _ _ _ x | .extract x _ | .len _ x | .clear _ x | .load _ x => opdT x
  | .pick c a b => opdL [c, a, b]
  | .new _ | .newMap => []
  | .build _ ps | .lit _ _ _ ps => opdL (ps.map (·.2.2))
  | .store _ a x => opdL [a, x]
  | .bin _ x y | .eq _ _ x y | .append _ _ x y | .copy _ x y => opdL [x, y]
  | .fn _ a b => opdL (a ++ b)
  | .mkSlice _ _ _ l c => opdL [l, c]
  | .slice _ x lo hi mx => opdT x ++ opdO lo ++ opdO hi ++ opdO mx
  | .ixA _ _ x i | .ixS x i | .ixV _ _ _ x i => opdL [x, i]
  | .look _ _ _ x k | .delete _ x k => opdL [x, k]
  | .mapSet _ m k v => opdL [m, k, v]
  | .minmax _ x ys => opdL (x :: ys)
  | .call f args => opdL (f :: args)

def liveOps (out : List Tmp) (l : List AOper) : List Tmp :=
  l.foldr (fun o live =>
    let live := match o.dst with | some d => dropT d live | none => live
    let live := match o.guard with | some (t, _) => insT t live | none => live
    unionT o.op.reads live) out

def ACode.plain : ACode → Bool
  | .skip | .ops _ | .draw _ | .exit _ | .ret | .keep _ => true
  | .seq a b => a.plain && b.plain
  | _ => false

def badC : ACode := .ops [⟨none, none, .bad⟩]

/-- The code, and what is read of the slots at its beginning: by what is read behind it, behind each block that is left, at the function's end. -/
def compL (P : Program) (n : Nat) : Code → List Tmp → (Nat → List Tmp) → List Tmp → ACode × List Tmp
  | .skip, out, _, _ => (.skip, out)
  | .region _ ops false, out, _, _ => (.ops (ops.toList.map (compOper P ops n)), liveOps out (ops.toList.map (compOper P ops n)))
  | .region _ ops true, out, _, _ => if okDraw P ops n then (.draw (compDraw P ops n), liveOps out ((compDraw P ops n).map (·.o))) else (badC, out)
  | .seq a b, out, ex, rt =>
    match compL P n b out ex rt with
    | (b', lb) =>
      match compL P n a lb ex rt with
      | (a', la) => (.seq a' (if a'.plain then b' else .seq (.keep lb) b'), la)
  | .cond c a b, out, ex, rt =>
    if opdOk P c then
      match compL P n a out ex rt with
      | (a', la) =>
        match compL P n b out ex rt with
        | (b', lb) => (.cond c a' b', unionT (opdT c) (unionT la lb))
    else (badC, out)
  | .block id b, out, ex, rt =>
    match compL P n b out (fun j => if Nat.beq j id then out else ex j) rt with
    | (b', lb) => (.block id b', lb)
  | .loop b, _, ex, rt =>
    match compL P n b [] ex rt with
    | (_, l) =>
      match compL P n b l ex rt with
      | (b', _) => (.seq (.keep l) (.loop (.seq b' (.keep l))), l)
  | .rangeFunc f ps a b, out, ex, rt =>
    if opdOk P f && ps.toList.all (· < n) then
      match compL P n b [] ex rt with
      | (b', lb) =>
        match compL P n a lb ex rt with
        | (a', la) =>
          (.seq (.keep (unionT (opdT f) (unionT out (ps.toList.foldr dropT (unionT la lb))))) (.range f ps.toList a' (.seq (.keep lb) b')), unionT (opdT f) (unionT out (ps.toList.foldr dropT (unionT la lb))))
    else (badC, out)
  | .exit id, _, ex, _ => (.exit id, ex id)
  | .ret, _, _, rt => (.ret, rt)
  | _, out, _, _ => (badC, out)

/-- Code of the machine that does what code of the model does. -/
inductive Impl (P : Program) (n : Nat) : Code → ACode → Prop
  | skip : Impl P n .skip .skip
  | ops (id : Nat) (ops : Array Oper) : Impl P n (.region id ops false) (.ops (ops.toList.map (compOper P ops n)))
  | draw (id : Nat) {ops : Array Oper} (h : okDraw P ops n = true) : Impl P n (.region id ops true) (.draw (compDraw P ops n))
  | seq {a b : Code} {a' b' : ACode} (ha : Impl P n a a') (hb : Impl P n b b') : Impl P n (.seq a b) (.seq a' b')
  | cond {c : Operand} (h : opdOk P c = true) {a b : Code} {a' b' : ACode} (ha : Impl P n a a') (hb : Impl P n b b') : Impl P n (.cond c a b) (.cond c a' b')
  | block (id : Nat) {b : Code} {b' : ACode} (hb : Impl P n b b') : Impl P n (.block id b) (.block id b')
  | loop {b : Code} {b' : ACode} (hb : Impl P n b b') : Impl P n (.loop b) (.loop b')
  | range {f : Operand} {ps : Array Tmp} (h : (opdOk P f && ps.toList.all (· < n)) = true) {a b : Code} {a' b' : ACode} (ha : Impl P n a a') (hb : Impl P n b b') : Impl P n (.rangeFunc f ps a b) (.range f ps.toList a' b')
  | exit (id : Nat) : Impl P n (.exit id) (.exit id)
  | ret : Impl P n .ret .ret
  | bad (c : Code) : Impl P n c badC
  | keepL (l : List Tmp) {c : Code} {c' : ACode} (h : Impl P n c c') : Impl P n c (.seq (.keep l) c')
  | keepR (l : List Tmp) {c : Code} {c' : ACode} (h : Impl P n c c') : Impl P n c (.seq c' (.keep l))

theorem compL_impl (P : Program) (n : Nat) : ∀ (c : Code) (out : List Tmp) (ex : Nat → List Tmp) (rt : List Tmp), Impl P n c (compL P n c out ex rt).1 := by
  intro c
  induction c with
  | skip => intro out ex rt; exact .skip
  | region id ops draw =>
    intro out ex rt
    cases draw with
    | false => exact .ops id ops
    | true =>
      simp only [compL]
      split
      · rename_i h; exact .draw id h
      · exact .bad _
  | seq a b iha ihb =>
    intro out ex rt
    simp only [compL]
    split
    · exact .seq (iha _ _ _) (ihb _ _ _)
    · exact .seq (iha _ _ _) (.keepL _ (ihb _ _ _))
  | cond c a b iha ihb =>
    intro out ex rt
    simp only [compL]
    split
    · rename_i h; exact .cond h (iha _ _ _) (ihb _ _ _)
    · exact .bad _
  | block id b ihb => intro out ex rt; exact .block id (ihb _ _ _)
  | loop b ihb => intro out ex rt; exact .keepL _ (.loop (.keepR _ (ihb _ _ _)))
  | rangeFunc f ps a b iha ihb =>
    intro out ex rt
    simp only [compL]
    split
    · rename_i h; exact .keepL _ (.range h (iha _ _ _) (.keepL _ (ihb _ _ _)))
    · exact .bad _
  | exit id => intro out ex rt; exact .exit id
  | ret => intro out ex rt; exact .ret
  | scope c _ => intro out ex rt; exact .bad _
  | label l => intro out ex rt; exact .bad _
  | goto l => intro out ex rt; exact .bad _
  | refuse why => intro out ex rt; exact .bad _

def resT : List ARes → List Tmp
  | [] => []
  | .tmp t :: l => insT t (resT l)
  | .cell t _ :: l => insT t (resT l)

def compRes (P : Program) : List ResultVar → Option (List ARes)
  | [] => some []
  | .tmp t :: l => (compRes P l).map (.tmp t :: ·)
  | .cell t ty :: l => match aggOf P ty with | some n => (compRes P l).map (.cell t n :: ·) | none => none

def compFun (P : Program) (fn : Func) : Option AFun :=
  match fn.body, compRes P fn.results.toList with
  | some c, some rs =>
    if fn.name = "runtime.NumGoroutine" then none
    else some { ntmps := fn.ntmps, results := rs, body := (compL P fn.ntmps c (resT rs) (fun _ => []) (resT rs)).1 }
  | _, _ => none

def funs (P : Program) : Funs := fun f => (P.funcs[f]?).bind (compFun P)

end Go.AM
