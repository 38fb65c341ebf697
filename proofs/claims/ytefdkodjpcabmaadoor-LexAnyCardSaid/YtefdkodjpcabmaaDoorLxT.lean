/-
  Texts in the machine: lists of bytes.
-/
import Derived.Test.YtefdkodjpcabmaaDoorAmC
import Derived.Lib.Strings
set_option linter.unusedVariables false
set_option linter.unusedSimpArgs false
set_option linter.unusedSectionVars false
namespace Go.AM
def T (l : List UInt8) : Value := .string ⟨l.toArray⟩
theorem T_of (s : ByteArray) : Value.string s = T s.data.toList := by simp [T]
theorem T_bstr (l : List UInt8) : Value.string (bstr l) = T l := rfl
@[simp] theorem isTuple_T (l : List UInt8) : isTuple (T l) = false := rfl
@[simp] theorem cellOk_T (l : List UInt8) : cellOk (T l) = true := rfl
@[simp] theorem cells_T (l : List UInt8) : (T l).cells = #[T l] := rfl
section
variable (l m : List UInt8) (st : St)
@[simp] theorem sBox_T : sBox (T l) st = .ok (P st.next 0, st.alloc (.cells [T l])) := rfl
@[simp] theorem sLbox_T : sLbox (T l) st = .ok (.agg #[T l], st.bump) := rfl
@[simp] theorem sStore_T (n b o : Nat) : sStore n (P b o) (T l) st = (Res.need (1 = n) "store: size" >>= fun _ => st.storeN b o [T l] >>= fun s => .ok (nothing, s)) := rfl
@[simp] theorem sUpd_T (n k : Nat) (cs : List Value) : sUpd n k (.agg cs.toArray) (T l) st = (Res.need (n = 1) "store: size" >>= fun _ => Res.need (k + n ≤ cs.length) "store: too far" >>= fun _ => .ok (.agg (splice cs k [T l]).toArray, st)) := sUpd_one n k cs st rfl rfl rfl
@[simp] theorem sLen_T : sLen .str (T l) st = .ok (I l.length, st) := by
  simp [T, goInt, ByteArray.size]
theorem sIxS_T {k : IntKind} {i : Nat} {c : UInt8} (h : l[i]? = some c) : sIxS (T l) (.int k i) st = .ok (U c.toNat, st) := by
 have hi := (List.getElem?_eq_some_iff.1 h).1
 simp only [T, sIxS, index, ByteArray.size, List.size_toArray]
 rw [if_pos ⟨Int.natCast_nonneg i, by exact_mod_cast hi⟩]
 simp [h]
@[simp] theorem sIxS_T0 (c : UInt8) : sIxS (T (c :: l)) (I 0) st = .ok (U c.toNat, st) := sIxS_T (c :: l) st (i := 0) rfl
theorem extract_T (a b : Nat) : (⟨l.toArray⟩ : ByteArray).extract a b = ⟨((l.take b).drop a).toArray⟩ := by
 apply ByteArray.ext
 rw [ByteArray.data_extract]
 simp [List.extract_eq_take_drop, List.drop_take]
theorem bound_of {k : IntKind} {a n : Nat} (h : a ≤ n) : bound (.int k a) n = .ok a := by
 have : (0 : Int) ≤ a ∧ (a : Int) ≤ n := ⟨Int.natCast_nonneg a, by exact_mod_cast h⟩
 simp [bound, this]
theorem sSlice_drop {k : IntKind} {a : Nat} (h : a ≤ l.length) : sSlice .str (T l) (some (.int k a)) none none st = .ok (T (l.drop a), st) := by
 have e : ∀ n, (⟨l.toArray⟩ : ByteArray).size = n → boundO none n n = .ok n := fun n _ => rfl
 simp only [sSlice, aslice, T, Option.isNone, Res.need_true, Res.bind_ok]
 show (boundO (some (.int k a)) l.length 0 >>= fun x => _) >>= _ = _
 rw [show boundO (some (.int k a)) l.length 0 = .ok a from bound_of (k := k) h]
 simp only [Res.bind_ok, Res.pure_eq, extract_T]
 rw [show (⟨l.toArray⟩ : ByteArray).size = l.length from rfl, List.take_length]
theorem sSlice_take {k : IntKind} {b : Nat} (h : b ≤ l.length) : sSlice .str (T l) none (some (.int k b)) none st = .ok (T (l.take b), st) := by
 simp only [sSlice, aslice, T, Option.isNone, Res.need_true, Res.bind_ok]
 show (boundO (some (.int k b)) l.length l.length >>= fun h => (boundO none h 0 >>= fun x => _)) >>= _ = _
 rw [show boundO (some (.int k b)) l.length l.length = .ok b from bound_of (k := k) h]
 simp only [Res.bind_ok, Res.pure_eq, boundO, extract_T, List.drop_zero]
theorem sSlice_mid {k k' : IntKind} {a b : Nat} (h1 : a ≤ b) (h : b ≤ l.length) : sSlice .str (T l) (some (.int k a)) (some (.int k' b)) none st = .ok (T ((l.take b).drop a), st) := by
 simp only [sSlice, aslice, T, Option.isNone, Res.need_true, Res.bind_ok]
 show (boundO (some (.int k' b)) l.length l.length >>= fun h => (boundO (some (.int k a)) h 0 >>= fun x => _)) >>= _ = _
 rw [show boundO (some (.int k' b)) l.length l.length = .ok b from bound_of (k := k') h]
 simp only [Res.bind_ok]
 rw [show boundO (some (.int k a)) b 0 = .ok a from bound_of (k := k) h1]
 simp only [Res.bind_ok, Res.pure_eq, extract_T]
theorem sAdd_T (h : l.length + m.length ≤ 9223372036854775807) : sBin .add (T l) (T m) st = .ok (T (l ++ m), st) := by
 have : ¬ (((⟨l.toArray⟩ : ByteArray).size + (⟨m.toArray⟩ : ByteArray).size : Nat) : Int) > IntKind.i64.max := by
  show ¬ ((l.length + m.length : Nat) : Int) > 9223372036854775807
  omega
 simp only [sBin, T, abin, astr, if_neg this, Res.bind_ok, Res.pure_eq]
 congr 3
theorem toList_T : (⟨l.toArray⟩ : ByteArray).toList = l := by rw [Lib.toList_data]
theorem beq_dec : (l == m) = decide (l = m) := by
 rw [Bool.eq_iff_iff]; simp
@[simp] theorem sNeq_T : sBin .neq (T l) (T m) st = .ok (.bool (!decide (l = m)), st) := by
  simp only [sBin, T, abin, astr, toList_T, Res.bind_ok, Res.pure_eq, beq_dec]
@[simp] theorem cellEq_T : cellEq .str (T l) (T m) = some (decide (l = m)) := by
  simp only [T, cellEq]
  congr 1
  rw [Bool.eq_iff_iff, decide_eq_true_eq]
  constructor
  ·intro h
   have h : (l.toArray == m.toArray) = true := h
   simpa using h
  ·intro h
   subst h
   show (l.toArray == l.toArray) = true
   simp
theorem dec_ascii {i : Nat} {c : UInt8} (h : l[i]? = some c) (hc : c.toNat < 128) : Utf8.decode ⟨l.toArray⟩ i = (c.toNat, 1) := by
 have hi := (List.getElem?_eq_some_iff.1 h).1
 have e : (⟨l.toArray⟩ : ByteArray).get! i = c := by
  simp [ByteArray.get!, List.getElem!_eq_getElem?_getD, h]
 unfold Utf8.decode
 simp [e, hc]
theorem dec_more {i : Nat} {c : UInt8} (h : l[i]? = some c) (hc : ¬ c.toNat < 128) : 128 ≤ (Utf8.decode ⟨l.toArray⟩ i).1 := by
 have e : (⟨l.toArray⟩ : ByteArray).get! i = c := by
  simp [ByteArray.get!, List.getElem!_eq_getElem?_getD, h]
 unfold Utf8.decode Utf8.runeError
 simp only [Nat.add_zero, e, if_neg hc]
 repeat' split
 all_goals (try simp only [Bool.and_eq_true, decide_eq_true_eq] at *)
 all_goals first | omega | (simp only []; omega)
end
theorem okEq {α : Type} {x : Res α} {c : α} (h : Ok x fun r => r = c) : x = .ok c := by
 obtain ⟨r, h1, h2⟩ := h
 rw [h1, h2]
end Go.AM
