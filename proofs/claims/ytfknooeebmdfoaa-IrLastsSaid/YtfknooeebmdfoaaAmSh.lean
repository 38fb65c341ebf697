/-
  THE ABSTRACT MACHINE, 28: the operations by themselves, on values; places within the rounds of a range over a function.
-/
import Derived.Test.YtfknooeebmdfoaaAmLim
import Derived.KernelRfl
set_option linter.unusedVariables false
namespace Go.AM

abbrev P (b o : Nat) : Value := .pointer (some ⟨b, o, none⟩)
def bstr (l : List UInt8) : ByteArray := ⟨l.toArray⟩
def gd (v : Value) (b : Bool) : Res Bool := match v with | .bool c => .ok (c == b) | .chan (some _) => .ok false | _ => .err "guard"
def sPick (c a b : Value) (st : St) : Res (Value × St) :=
  match c with
  | .bool t => .ok (if t then a else b, st)
  | _ => .err "pick"
def sNew (z : List Value) (st : St) : Res (Value × St) := .ok (.pointer (some ⟨st.next, 0, none⟩), st.alloc (.cells z))
def sBox (x : Value) (st : St) : Res (Value × St) := do
  Res.need (!isTuple x) "box: nothing"
  pure (.pointer (some ⟨st.next, 0, none⟩), st.alloc (.cells x.cells.toList))
def sBuild (z : List Value) (ps : List (Nat × Nat × Value)) (st : St) : Res (Value × St) := do
  let cs ← fillL z ps
  pure (.agg cs.toArray, st)
def sLit (s n : Nat) (z : List Value) (ps : List (Nat × Nat × Value)) (st : St) : Res (Value × St) := do
  let cs ← fillL z ps
  pure (.slice (some ⟨st.next, 0, none⟩) n s, st.alloc (.cells cs))
def sLoad (n : Option Nat) (a : Value) (st : St) : Res (Value × St) := do
  let (b, o) ← asPtr a
  match n with
  | none => do
    let v ← st.load1 b o
    pure (v, st)
  | some n => do
    let l ← st.loadN b o n
    pure (.agg l.toArray, st)
def sStore (n : Nat) (a x : Value) (st : St) : Res (Value × St) := do
  let (b, o) ← asPtr a
  Res.need (!isTuple x) "store: nothing"
  Res.need (x.cells.size = n) "store: size"
  let st' ← st.storeN b o x.cells.toList
  pure (nothing, st')
def sNilc (x : Value) (st : St) : Res (Value × St) :=
  match x with
  | .pointer (some a) => .ok (.pointer (some a), st)
  | .func (.func f) p c => .ok (.func (.func f) p c, st)
  | .iface t v => .ok (.iface t v, st)
  | _ => .err "nil"
def sBin (op : BinOp) (x y : Value) (st : St) : Res (Value × St) := do
  let v ← abin op x y
  pure (v, st)
def sEq (neg : Bool) (k : EqK) (x y : Value) (st : St) : Res (Value × St) := do
  let b ← aeq k x y
  pure (.bool (if neg then !b else b), st)
def sUn (op : UnOp) (x : Value) (st : St) : Res (Value × St) := do
  let v ← aun op x
  pure (v, st)
def sConv (k : ConvK) (x : Value) (st : St) : Res (Value × St) := aconv st k x
def sNewMap (st : St) : Res (Value × St) := .ok (.map (some st.next), st.alloc (.map []))
def sMkSlice (s bytes : Nat) (z : List Value) (l c : Value) (st : St) : Res (Value × St) := do
  match l, c with
  | .int .i64 l, .int .i64 c => do
    Res.need (0 ≤ l ∧ l ≤ c ∧ c * bytes ≤ mostBytes ∧ c ≤ mostBytes ∧ z.length = s) "make"
    pure (.slice (some ⟨st.next, 0, none⟩) l.toNat s, st.alloc (.cells (zerosL z c.toNat)))
  | _, _ => .err "make"
def sSlice (k : SliceK) (x : Value) (lo hi mx : Option Value) (st : St) : Res (Value × St) := do
  let v ← aslice st k x lo hi mx
  pure (v, st)
def sOff (n : Nat) (x : Value) (st : St) : Res (Value × St) := do
  let (b, o) ← asPtr x
  pure (.pointer (some ⟨b, o + n, none⟩), st)
def sField (n : Option Nat) (o : Nat) (x : Value) (st : St) : Res (Value × St) :=
  match x with
  | .agg cs => do
    let v ← part n cs.toList o
    pure (v, st)
  | _ => .err "field"
def sIxA (s : Nat) (ln : Option Nat) (x i : Value) (st : St) : Res (Value × St) :=
  match ln, x with
  | none, .slice (some ⟨b, o, none⟩) n s' => do
    Res.need (s' = s) "another element"
    let i ← index i n
    pure (.pointer (some ⟨b, o + i * s, none⟩), st)
  | some n, .pointer (some ⟨b, o, none⟩) => do
    let i ← index i n
    pure (.pointer (some ⟨b, o + i * s, none⟩), st)
  | _, _ => .err "index"
def sIxS (x i : Value) (st : St) : Res (Value × St) :=
  match x with
  | .string t => do
    let i ← index i t.size
    let b ← Res.of t.data[i]? "index"
    pure (.int .u8 b.toNat, st)
  | _ => .err "index"
def sIxV (n : Option Nat) (s ln : Nat) (x i : Value) (st : St) : Res (Value × St) :=
  match x with
  | .agg cs => do
    let i ← index i ln
    let v ← part n cs.toList (i * s)
    pure (v, st)
  | _ => .err "index"
def sLook (q : KeyK) (z : Value) (ok : Bool) (x k : Value) (st : St) : Res (Value × St) := do
  let v ← alook st q z ok x k
  pure (v, st)
def sMapSet (q : KeyK) (m k v : Value) (st : St) : Res (Value × St) := do
  let st' ← amapSet st q m k v
  pure (nothing, st')
def sRangeStr (x : Value) (st : St) : Res (Value × St) :=
  match x with
  | .string t => .ok (.pointer (some ⟨st.next, 0, none⟩), st.alloc (.strIter t 0))
  | _ => .err "range"
def sNextStr (x : Value) (st : St) : Res (Value × St) := do
  let (b, o) ← asPtr x
  Res.need (o = 0) "iterator"
  match st.get b with
  | some (.strIter t pos) =>
    if pos < t.size then do
      Res.need (st.ro ≤ b) "iterator"
      pure (.tuple #[.bool true, goInt pos, .int .i32 (Utf8.decode t pos).1], st.put b (.strIter t (pos + (Utf8.decode t pos).2)))
    else pure (.tuple #[.bool false], st)
  | _ => .err "iterator"
def sAssert (t : TypeId) (z : Value) (ok : Bool) (x : Value) (st : St) : Res (Value × St) :=
  match x with
  | .iface u v =>
    if u = t then .ok (if ok then .tuple #[v, .bool true] else v, st)
    else if ok then .ok (.tuple #[z, .bool false], st) else .err "assertion"
  | .nilIface => if ok then .ok (.tuple #[z, .bool false], st) else .err "assertion"
  | _ => .err "interface expected"
def sExtract (x : Value) (i : Nat) (st : St) : Res (Value × St) :=
  match x with
  | .tuple vs => do
    let v ← Res.of vs[i]? "extract"
    pure (v, st)
  | _ => .err "extract"
def sLen (k : LenK) (x : Value) (st : St) : Res (Value × St) :=
  match k, x with
  | LenK.str, Value.string t => .ok (goInt t.size, st)
  | LenK.slice, .slice _ n _ => .ok (goInt n, st)
  | LenK.const n, _ => .ok (goInt n, st)
  | LenK.map, .map none => .ok (goInt 0, st)
  | LenK.map, .map (some r) => do
    let es ← st.map r
    pure (goInt es.length, st)
  | _, _ => .err "len"
def sAppend (s bytes : Nat) (x y : Value) (st : St) : Res (Value × St) := aappend st s bytes x y
def sCopy (s : Nat) (x y : Value) (st : St) : Res (Value × St) := acopy st s x y
def sClear (z : List Value) (x : Value) (st : St) : Res (Value × St) := aclear st z x
def sDelete (q : KeyK) (x k : Value) (st : St) : Res (Value × St) := do
  let st' ← adelete st q x k
  pure (nothing, st')
def sMinmax (max : Bool) (x : Value) (ys : List Value) (st : St) : Res (Value × St) := do
  let v ← minmaxL max x ys
  pure (v, st)
def sCall (K : Ctx) (f : Value) (args : List Value) (st : St) : Res (Value × St) := do
  let t ← taskOf f args
  K.go t st

/-- What is found is found in each of these states; or it was made since. -/
def sStays (snaps : List St) (base : Nat) (look : Value) (run : St → Res (Value × St)) (v : Value) : Bool :=
  (match idOf look with | some id => base ≤ id | none => false) ||
  snaps.all fun s => match run s with | .ok (u, _) => sameVal v u | .err _ => false

def sRange {R : Type} (K : Ctx) (f : Value) (st : St) (o : AObj) (k : AExit → St → Res R) : Res R :=
  taskOf f [.func (.yield st.next) #[] #[]] >>= fun t => Res.need t.isCall "range: no function" >>= fun _ => K.go t (st.alloc o) >>= fun p =>
    match p.2.get st.next with
    | some (.loop _ _ _ _ state pend) => Res.need (state != .busy) "range" >>= fun _ => k pend (p.2.put st.next .dead)
    | _ => .err "range: the loop is gone"

def rawK (x : AExit) (_ : Env) (st : St) : Res (AExit × St) := .ok (x, st)
/-- The rounds of a range over a function (their code), from their beginning. -/
def atR (K : Ctx) (J : List Frame → Env → St → Res (AExit × St)) (c : ACode) (e : Env) (st : St) : Res (AExit × St) := codeJ K J c rawK [] e st
abbrev JT (R : Type) := List Frame → Env → St → Res R

/-! short words for the printed code -/
namespace C
abbrev t (n : Nat) : Operand := .tmp n
abbrev c (v : Value) : Operand := .const v
abbrev f (n : Nat) : Operand := .func n
abbrev o (d : Nat) (x : AOp) : AOper := ⟨some d, none, x⟩
abbrev n (x : AOp) : AOper := ⟨none, none, x⟩
abbrev g (d : Nat) (b : Bool) (u : Nat) (x : AOp) : AOper := ⟨some d, some (u, b), x⟩
abbrev h (b : Bool) (u : Nat) (x : AOp) : AOper := ⟨none, some (u, b), x⟩
abbrev d (i k : Nat) (w : Bool) (x : AOper) : DOper := ⟨i, k, w, x⟩
abbrev s (a b : ACode) : ACode := .seq a b
abbrev i (x : Int) : Value := .int .i64 x
abbrev u (x : Int) : Value := .int .u8 x
end C
end Go.AM
