/-
  What strconv.FormatInt and strconv.ParseInt answer, as the machine is told.
-/
import Derived.Test.YtlpdlohikfkjnaaDoorAmC
import Derived.Lib.ItoaNum
import Derived.Lib.ParseIntB
set_option linter.unusedVariables false
namespace Go.AM
def gFI : Look := .of fun
 | [.int .i64 n, .int .i64 b] => if -9223372036854775808 ≤ n ∧ n ≤ 9223372036854775807 ∧ b = 10 then some (.string ⟨(Lib.itoa n).toArray⟩) else none
 | _ => none
def piOf (te : TypeId) (s : ByteArray) : Value :=
 match Lib.parseIntB 64 s.data.toList with
 | .ok v => .tuple #[.int .i64 v, .nilIface]
 | _ => .tuple #[nothing, .iface te nothing]
def gPI (te : TypeId) : Look := .of fun
 | [.string s, .int .i64 b, .int .i64 z] => if s.size ≤ 281474976710656 ∧ b = 10 ∧ z = 64 then some (piOf te s) else none
 | _ => none
end Go.AM
