/-
  Texts in the machine: lists of bytes.
-/
import Derived.Test.YtlpdlohikfkjnaaDoorAmC
import Derived.Lib.Strings
set_option linter.unusedVariables false
set_option linter.unusedSimpArgs false
set_option linter.unusedSectionVars false
namespace Go.AM
def T (l : List UInt8) : Value := .string ⟨l.toArray⟩
theorem T_bstr (l : List UInt8) : Value.string (bstr l) = T l := rfl
@[simp] theorem isTuple_T (l : List UInt8) : isTuple (T l) = false := rfl
@[simp] theorem cellOk_T (l : List UInt8) : cellOk (T l) = true := rfl
@[simp] theorem cells_T (l : List UInt8) : (T l).cells = #[T l] := rfl
section
variable (l m : List UInt8) (st : St)
@[simp] theorem sBox_T : sBox (T l) st = .ok (P st.next 0, st.alloc (.cells [T l])) := rfl
@[simp] theorem sLbox_T : sLbox (T l) st = .ok (.agg #[T l], st.bump) := rfl
@[simp] theorem sStore_T (n b o : Nat) : sStore n (P b o) (T l) st = (Res.need (1 = n) "store: size" >>= fun _ => st.storeN b o [T l] >>= fun s => .ok (nothing, s)) := rfl
@[simp] theorem sUpd_T (n k : Nat) (cs : List Value) : sUpd n k (.agg cs.toArray) (T l) st = (Res.need (n = 1) "store: size" >>= fun _ => Res.need (k + n ≤ cs.length) "store: too far" >>= fun _ => .ok (.agg (splice cs k [T l]).toArray, st)) := sUpd_one n k cs st rfl rfl rfl
theorem sIxS_T {k : IntKind} {i : Nat} {c : UInt8} (h : l[i]? = some c) : sIxS (T l) (.int k i) st = .ok (U c.toNat, st) := by
 have hi := (List.getElem?_eq_some_iff.1 h).1
 simp only [T, sIxS, index, ByteArray.size, List.size_toArray]
 rw [if_pos ⟨Int.natCast_nonneg i, by exact_mod_cast hi⟩]
 simp [h]
@[simp] theorem sIxS_T0 (c : UInt8) : sIxS (T (c :: l)) (I 0) st = .ok (U c.toNat, st) := sIxS_T (c :: l) st (i := 0) rfl
theorem toList_T : (⟨l.toArray⟩ : ByteArray).toList = l := by rw [Lib.toList_data]
theorem beq_dec : (l == m) = decide (l = m) := by
 rw [Bool.eq_iff_iff]; simp
@[simp] theorem sEql_T : sBin .eql (T l) (T m) st = .ok (.bool (decide (l = m)), st) := by
  simp only [sBin, T, abin, astr, toList_T, Res.bind_ok, Res.pure_eq, beq_dec]
@[simp] theorem sNeq_T : sBin .neq (T l) (T m) st = .ok (.bool (!decide (l = m)), st) := by
  simp only [sBin, T, abin, astr, toList_T, Res.bind_ok, Res.pure_eq, beq_dec]
end
end Go.AM
