/-
 show.writer's put: texts and numbers, one behind the other.
 show.Last.
 show.Instr.
 show.Instr: an operation.
 show.Program.
 show.Program.
-/
import Derived.Test.YtlpdlohikfkjnaaDoorLaySh
import Derived.Test.YtlpdlohikfkjnaaDoorSd0
import Derived.Test.YtlpdlohikfkjnaaDoorLxR
import Derived.WalkKit
import Derived.BigCall
import Derived.Deep.RegionWith
import Derived.BigRegion
section
set_option linter.unusedVariables false
set_option linter.unusedSimpArgs false
set_option linter.unusedSectionVars false
set_option linter.unnecessarySimpa false
namespace Go.Proofs
open Go.RowKit Go.Lib
def It.v : It → Value
 | .s t => .iface 9 (.string ⟨t.toArray⟩)
 | .i n => .iface 3 (.int .i64 n)
 | .l n => .iface 2 (.int .i64 n)
def It.ok : It → Prop
 | .s t => t.length ≤ 1000
 | .i n => -9223372036854775808 ≤ n ∧ n ≤ 9223372036854775807
 | .l n => -9223372036854775808 ≤ n ∧ n ≤ 9223372036854775807
def Pow (w : World) : Prop := ∃ T fz, w.heap[1]? = some (.cells (pow10Tab.map fun z => Value.int .u64 z).toArray T fz)
theorem Pow.tab {w : World} (h : Pow w) : TabIs Tryd.prog w "internal/strconv.uint64pow10" .u64 pow10Tab := by
 obtain ⟨T, fz, hq⟩ := h
 unfold TabIs World.var?
 rw [show Tryd.prog.globalNamed "internal/strconv.uint64pow10" = some 1 by kernel_rfl]
 simp [hq]
theorem Pow.below {B : Nat} {w w' : World} (h : Pow w) (hB : 1 < B) (k : Below B w w') : Pow w' := by
 obtain ⟨T, fz, hq⟩ := h
 exact ⟨T, fz, by rw [k.block 1 (by omega)]; exact hq⟩
theorem ta_9 (v : Value) (w : World) : (Instr.typeAssert (.iface 9 v) 20 9 true).run Tryd.prog w = .ok (.tuple #[v, .bool true]) w := by
 simp [Instr.typeAssert, run_underlying Tryd.underlying9]
theorem ta_3 (v : Value) (w : World) : (Instr.typeAssert (.iface 3 v) 20 3 true).run Tryd.prog w = .ok (.tuple #[v, .bool true]) w := by
 simp [Instr.typeAssert, run_underlying Tryd.underlying3]
theorem ta_2 (v : Value) (w : World) : (Instr.typeAssert (.iface 2 v) 20 2 true).run Tryd.prog w = .ok (.tuple #[v, .bool true]) w := by
 simp [Instr.typeAssert, run_underlying Tryd.underlying2]
theorem ta_39 (v : Value) (w : World) : (Instr.typeAssert (.iface 3 v) 20 9 true).run Tryd.prog w = .ok (.tuple #[.string ⟨#[]⟩, .bool false]) w := by
 simp [Instr.typeAssert, run_underlying Tryd.underlying9, Tryd.zeroValue9]
theorem ta_29 (v : Value) (w : World) : (Instr.typeAssert (.iface 2 v) 20 9 true).run Tryd.prog w = .ok (.tuple #[.string ⟨#[]⟩, .bool false]) w := by
 simp [Instr.typeAssert, run_underlying Tryd.underlying9, Tryd.zeroValue9]
theorem ta_23 (v : Value) (w : World) : (Instr.typeAssert (.iface 2 v) 20 3 true).run Tryd.prog w = .ok (.tuple #[.int .i64 0, .bool false]) w := by
 simp [Instr.typeAssert, run_underlying Tryd.underlying3, Tryd.zeroValue3]
theorem It.len {x : It} (h : x.ok) : x.b.length ≤ 1000 := by
 cases x with
 | s t => exact h
 | i n => have := (Go.AM.Lx.Reads.num h.1 h.2).len; simp only [It.b]; omega
 | l n => have := (Go.AM.Lx.Reads.num h.1 h.2).len; simp only [It.b]; omega
theorem itB_len : ∀ {l : List It}, (∀ x ∈ l, x.ok) → (itB l).length ≤ 1000 * l.length := by
 intro l
 induction l with
 | nil => intro _; simp [itB]
 | cons x l ih =>
   intro h
   have h1 := It.len (h x (List.mem_cons_self ..))
   have h2 := ih fun y hy => h y (List.mem_cons_of_mem _ hy)
   unfold itB at h2 ⊢
   rw [List.flatMap_cons, List.length_append, List.length_cons]
   omega
theorem Bat_below {T e : TypeId} {B b : Nat} {p : Value} {bs : List Value} {w w' : World} (h : BuilderAtF T e B b p bs w) (k : Below w.heap.size w w') : BuilderAtF T e B b p bs w' := by
 have hlt := h.lt
 obtain ⟨hB, v, hb, hown, hne⟩ := h
 exact ⟨hB, v, by rw [k.block b hlt]; exact hb, hown.kept (row := none) ⟨k.os, k.tape, k.output, k.size, fun i hi _ => k.block i hi⟩ (by cases h : v.ownBlock with | none => exact .inl rfl | some x => exact .inr (by simp)), hne⟩
theorem Bf_below {T e : TypeId} {B b : Nat} {bs : List Value} {w w' : World} (h : IsBuilderF T e B b bs w) (k : Below w.heap.size w w') : IsBuilderF T e B b bs w' := h.imp (fun h => Bat_below h k) fun h => Bat_below h k
theorem Ok_below {e : TypeId} {b : Option Nat} {w w' : World} (k : Below w.heap.size w w') : OthersKept e b w w' := fun i o hi _ _ => by
 have := (Array.getElem?_eq_some_iff.1 hi).1
 rw [k.block i this]; exact hi
theorem grow_new (w : World) (k : Nat) (os : Array Obj) : Below w.heap.size w («Sort».grow (w.drewN k) os) where
 os := rfl
 tape := rfl
 output := rfl
 size := by simp [«Sort».grow]
 block := fun i hi => by
  show ((w.drewN k).heap ++ os)[i]? = w.heap[i]?
  exact Array.getElem?_append_left hi
theorem Tryd.write_ok (B b : Nat) (l : List UInt8) (t : List UInt8) (w : World) (h : IsBuilderF 73 5 B b (byteCells l) w) (hlen : l.length + t.length ≤ 140737488355328) (hBw : B ≤ w.heap.size) :
 Calls Tryd.prog 39 #[.pointer (some ⟨b, 0, none⟩), .string ⟨t.toArray⟩] w fun e w' => e = .returned (.tuple #[.int .i64 t.length, .nilIface]) ∧ IsBuilderF 73 5 B b (byteCells (l ++ t)) w' ∧ Below B w w' ∧ OthersKept 5 (some b) w w' := by
 refine (Bu.write Tryd.laysWS Tryd.extraB Tryd.headW B b (byteCells l) ⟨t.toArray⟩ w h (by rw [byteCells_length]; exact hlen) hBw).mono ?_
 rintro e w' ⟨rfl, h1, h2, h3⟩
 exact ⟨rfl, .inr (by rw [byteCells_append]; exact h1), h2, h3⟩
theorem Tryd.itoa_ok (n : Int) (h0 : -9223372036854775808 ≤ n) (h1 : n ≤ 9223372036854775807) (w : World) (hp : Pow w) :
 Calls Tryd.prog 40 #[.int .i64 n] w fun e w' => e = .returned (.string ⟨(itoa n).toArray⟩) ∧ Below w.heap.size w w' := by
 refine (Any.strconv_Itoa Tryd.laysIt n h0 h1 w hp.tab).mono ?_
 rintro e w' ⟨rfl, k, os, rfl⟩
 exact ⟨rfl, grow_new w k os⟩
theorem Tryd.format_ok (n : Int) (h0 : -9223372036854775808 ≤ n) (h1 : n ≤ 9223372036854775807) (w : World) (hp : Pow w) :
 Calls Tryd.prog 41 #[.int .i64 n, .int .i64 10] w fun e w' => e = .returned (.string ⟨(itoa n).toArray⟩) ∧ Below w.heap.size w w' := by
 refine (Any.strconv_FormatInt_10 Tryd.laysFI n h0 h1 w hp.tab).mono ?_
 rintro e w' ⟨rfl, k, os, rfl⟩
 exact ⟨rfl, grow_new w k os⟩
set_option maxHeartbeats 1000000 in
set_option maxRecDepth 100000 in
theorem put_any (acc : List UInt8) (its : List It) (w : World) (B b k : Nat) (hI : IsBuilderF 73 5 B b (byteCells acc) w) (hk : w.heap[k]? = some (.cells (its.map It.v).toArray 20 (0, 0))) (hkb : k ≠ b)
 (hok : ∀ x ∈ its, x.ok) (hlen : its.length ≤ 1000) (hacc : acc.length ≤ 1000000000) (hp : Pow w) (hB : 1 < B) (hBw : B ≤ w.heap.size) :
 Calls Tryd.prog 22 #[.pointer (some ⟨b, 0, none⟩), .slice (some ⟨k, 0, none⟩) its.length its.length] w fun e w' => e = .returned (.tuple #[]) ∧ IsBuilderF 73 5 B b (byteCells (acc ++ itB its)) w' ∧ Below B w w' ∧ OthersKept 5 (some b) w w' := by
 go_enter Tryd.func22, Tryd.ntmps22
 go_wp2
 go_loopw [11] (fun i wr => ∃ j : Nat, j ≤ its.length ∧ i = .int .i64 j ∧ IsBuilderF 73 5 B b (byteCells (acc ++ itB (its.take j))) wr ∧ Below B w wr ∧ OthersKept 5 (some b) w wr) (fun i wr => its.length - (RowKit.intOf i).toNat)
 case atStart => exact ⟨0, Nat.zero_le _, rfl, by simpa [itB] using hI, Below.refl _ _, .refl _ _ _⟩
 case round =>
  obtain ⟨j, hj, rfl, hIj, hb, ho⟩ := hrel
  have hkk : wr.heap[k]? = some (.cells (its.map It.v).toArray 20 (0, 0)) := ho k _ hk (by simp [hkb]) (by intro c fz e; cases e)
  by_cases hlt : j < its.length
  ·have hx : its[j]? = some its[j] := List.getElem?_eq_getElem hlt
   have hc : wr.cell? ⟨k, j, none⟩ = some its[j].v := by
    rw [cell_of_heap hkk]; simp [hx]
   have hxo : its[j].ok := hok _ (List.getElem_mem hlt)
   have hx1 := It.len hxo
   have htl := itB_len (l := its.take j) fun x hx => hok x (List.mem_of_mem_take hx)
   have hl2 : (acc ++ itB (its.take j)).length ≤ 1001000000 := by
    rw [List.length_append]
    have : (its.take j).length ≤ 1000 := by rw [List.length_take]; omega
    omega
   have hsz : B ≤ wr.heap.size := Nat.le_trans hBw hb.size
   have hsn : acc ++ itB (its.take (j + 1)) = acc ++ itB (its.take j) ++ its[j].b := by
    rw [List.take_add_one, hx]
    simp only [itB, Option.toList_some, List.flatMap_append, List.flatMap_cons, List.flatMap_nil, List.append_nil, List.append_assoc]
   clear hk hkk
   generalize its[j] = x at *
   cases x with
   | s t =>
     replace hc : wr.cell? ⟨k, j, none⟩ = some (.iface 9 (.string ⟨t.toArray⟩)) := hc
     have e1 := ta_9 (.string ⟨t.toArray⟩) wr
     go_wp2_with (go_at_call 39; refine (Tryd.write_ok B b _ t _ hIj (by simp only [It.b] at hx1; omega) hsz).mono ?_)
     rintro e w1 ⟨rfl, h1, b1, k1⟩
     go_wp2
     go_roundw
     case rel => exact ⟨j + 1, by omega, by go_num, by rw [hsn]; exact h1, hb.trans b1, ho.trans k1⟩
     case measure => simp [RowKit.intOf]; omega
   | i n =>
     replace hc : wr.cell? ⟨k, j, none⟩ = some (.iface 3 (.int .i64 n)) := hc
     have e1 := ta_39 (.int .i64 n) wr
     have e2 := ta_3 (.int .i64 n) wr
     have hp1 := hp.below hB hb
     have hn := hxo
     have hlen2 : (acc ++ itB (its.take j)).length + (itoa n).length ≤ 140737488355328 := by simp only [It.b] at hx1; omega
     have hp2 : Pow wr.drew := hp1
     have hId : IsBuilderF 73 5 B b (byteCells (acc ++ itB (its.take j))) wr.drew := hIj.imp (fun h => h.drew) fun h => h.drew
     have hbd : Below B w wr.drew := hb.drew
     have hsd : B ≤ wr.drew.heap.size := hsz
     go_wp2
     go_region_with (first
      | (go_at_call 40; refine (Tryd.itoa_ok n hn.1 hn.2 _ hp2).mono ?_; rintro e w1 ⟨rfl, b1⟩)
      | (go_at_call 39; refine (Tryd.write_ok B b _ (itoa n) _ (Bf_below hId b1) hlen2 (Nat.le_trans hsd b1.size)).mono ?_; rintro e w2 ⟨rfl, h1, b2, k1⟩))
     go_wp2
     go_roundw
     case rel => exact ⟨j + 1, by omega, by go_num, by rw [hsn]; exact h1, (hbd.trans (b1.mono hsd)).trans b2, (ho.drew.trans (Ok_below b1)).trans k1⟩
     case measure => simp [RowKit.intOf]; omega
   | l n =>
     replace hc : wr.cell? ⟨k, j, none⟩ = some (.iface 2 (.int .i64 n)) := hc
     have e1 := ta_29 (.int .i64 n) wr
     have e2 := ta_23 (.int .i64 n) wr
     have e3 := ta_2 (.int .i64 n) wr
     have hp1 := hp.below hB hb
     have hn := hxo
     have hlen2 : (acc ++ itB (its.take j)).length + (itoa n).length ≤ 140737488355328 := by simp only [It.b] at hx1; omega
     have hp2 : Pow wr.drew := hp1
     have hId : IsBuilderF 73 5 B b (byteCells (acc ++ itB (its.take j))) wr.drew := hIj.imp (fun h => h.drew) fun h => h.drew
     have hbd : Below B w wr.drew := hb.drew
     have hsd : B ≤ wr.drew.heap.size := hsz
     go_wp2
     go_region_with (first
      | (go_at_call 41; refine (Tryd.format_ok n hn.1 hn.2 _ hp2).mono ?_; rintro e w1 ⟨rfl, b1⟩)
      | (go_at_call 39; refine (Tryd.write_ok B b _ (itoa n) _ (Bf_below hId b1) hlen2 (Nat.le_trans hsd b1.size)).mono ?_; rintro e w2 ⟨rfl, h1, b2, k1⟩))
     go_wp2
     go_roundw
     case rel => exact ⟨j + 1, by omega, by go_num, by rw [hsn]; exact h1, (hbd.trans (b1.mono hsd)).trans b2, (ho.drew.trans (Ok_below b1)).trans k1⟩
     case measure => simp [RowKit.intOf]; omega
  ·have hjn : j = its.length := by omega
   subst hjn
   rw [List.take_length] at hIj
   go_wp2
   go_end0
   exact ⟨rfl, hIj, hb, ho⟩
end Go.Proofs
end
section
set_option linter.unusedVariables false
set_option linter.unusedSimpArgs false
set_option linter.unusedSectionVars false
set_option linter.unnecessarySimpa false
namespace Go.Proofs
open Go.RowKit Go.Lib
theorem str_any (l : List UInt8) (w : World) (B b : Nat) (hI : IsBuilderF 73 5 B b (byteCells l) w) (h0 : l ≠ []) : Calls Tryd.prog 24 #[.pointer (some ⟨b, 0, none⟩)] w fun e w' => e = .returned (.string ⟨l.toArray⟩) ∧ Below B w w' :=
 Bu.string Tryd.laysBS Tryd.extraB B b l w hI h0
theorem al_size (w : World) (o : Obj) : (w.alloc o).heap.size = w.heap.size + 1 := by
 show (w.heap.push o).size = _
 exact Array.size_push _
theorem put_top (acc : List UInt8) (its : List It) (w : World) (B b k : Nat) (hI : IsBuilderF 73 5 B b (byteCells acc) w) (hk : k = w.heap.size)
 (hok : ∀ x ∈ its, x.ok) (hlen : its.length ≤ 1000) (hacc : acc.length ≤ 1000000000) (hp : Pow w) (hB : 1 < B) (hBw : B ≤ w.heap.size) :
 Calls Tryd.prog 22 #[.pointer (some ⟨b, 0, none⟩), .slice (some ⟨k, 0, none⟩) its.length its.length] (w.alloc (.cells (its.map It.v).toArray 20)) fun e w' => e = .returned (.tuple #[]) ∧ IsBuilderF 73 5 B b (byteCells (acc ++ itB its)) w' ∧ Below B w w' := by
 subst hk
 have hb : b < w.heap.size := hI.elim (fun h => h.lt) fun h => h.lt
 have hs : (w.alloc (.cells (its.map It.v).toArray 20)).heap.size = w.heap.size + 1 := al_size _ _
 have hb0 : Below B w (w.alloc (.cells (its.map It.v).toArray 20)) := (Below.refl B w).alloc hBw _
 refine (put_any acc its _ B b w.heap.size (hI.alloc _) (heap_alloc_new w _) (by omega) hok hlen hacc (hp.below hB hb0) hB (by omega)).mono ?_
 rintro e w' ⟨rfl, h1, h2, _⟩
 exact ⟨rfl, h1, hb0.trans h2⟩
theorem fresh_w (w : World) : IsBuilderF 73 5 w.heap.size w.heap.size (byteCells []) (w.alloc (.cells #[.pointer none, .slice none 0 0] 73)) := IsBuilderF.of (fresh_isBuilder 73 5 w)
set_option maxHeartbeats 1000000 in
set_option maxRecDepth 100000 in
theorem last_0 (a y n : Int) (ha : -9223372036854775808 ≤ a ∧ a ≤ 9223372036854775807) (hy : -9223372036854775808 ≤ y ∧ y ≤ 9223372036854775807) (hn : -9223372036854775808 ≤ n ∧ n ≤ 9223372036854775807) (w : World) (hp : Pow w) (hB : 1 < w.heap.size) :
 Calls Tryd.prog 10 #[.agg #[.int .u8 0, .int .i64 a, .int .i64 y, .int .i64 n]] w fun e w' => e = .returned (.string ⟨(itB (lastIt 0 a y n)).toArray⟩) ∧ Below w.heap.size w w' := by
 have hs1 : (w.alloc (.cells #[.int .u8 0, .int .i64 a, .int .i64 y, .int .i64 n] 36)).heap.size = w.heap.size + 1 := al_size _ _
 have hf := fresh_w (w.alloc (.cells #[.int .u8 0, .int .i64 a, .int .i64 y, .int .i64 n] 36))
 rw [hs1] at hf
 have hb1 : Below w.heap.size w (w.alloc (.cells #[.int .u8 0, .int .i64 a, .int .i64 y, .int .i64 n] 36)) := (Below.refl _ w).alloc (Nat.le_refl _) _
 have hb2 : Below w.heap.size w ((w.alloc (.cells #[.int .u8 0, .int .i64 a, .int .i64 y, .int .i64 n] 36)).alloc (.cells #[.pointer none, .slice none 0 0] 73)) := hb1.alloc (by rw [hs1]; omega) _
 have hp2 := hp.below hB hb2
 have hok : ∀ x ∈ [It.s [106, 117, 109, 112, 32, 64], It.i y], x.ok := by
  intro x hx
  simp only [List.mem_cons, List.not_mem_nil, or_false] at hx
  rcases hx with rfl | rfl <;> first | exact ha | exact hy | exact hn | simp [It.ok]
 have hput := fun k hk => put_top [] [It.s [106, 117, 109, 112, 32, 64], It.i y] _ (w.heap.size + 1) (w.heap.size + 1) k hf hk hok (Nat.le_of_ble_eq_true rfl) (Nat.le_of_ble_eq_true rfl) hp2 (by omega) (by simp only [al_size]; omega)
 go_enter Tryd.func10, Tryd.ntmps10
 go_wp2_with (go_at_call 22; go_loud (refine (hput _ (by simp only [al_size])).mono ?_))
 rintro e w3 ⟨rfl, h1, b1⟩
 go_wp2_with (go_at_call 24; refine (str_any _ _ _ _ h1 (by simp [itB, It.b])).mono ?_)
 rintro e w4 ⟨rfl, b2⟩
 go_wp2
 go_ret
 exact ⟨rfl, (hb2.trans (b1.mono (by omega))).trans (b2.mono (by omega))⟩
set_option maxHeartbeats 1000000 in
set_option maxRecDepth 100000 in
theorem last_1 (a y n : Int) (ha : -9223372036854775808 ≤ a ∧ a ≤ 9223372036854775807) (hy : -9223372036854775808 ≤ y ∧ y ≤ 9223372036854775807) (hn : -9223372036854775808 ≤ n ∧ n ≤ 9223372036854775807) (w : World) (hp : Pow w) (hB : 1 < w.heap.size) :
 Calls Tryd.prog 10 #[.agg #[.int .u8 1, .int .i64 a, .int .i64 y, .int .i64 n]] w fun e w' => e = .returned (.string ⟨(itB (lastIt 1 a y n)).toArray⟩) ∧ Below w.heap.size w w' := by
 have hs1 : (w.alloc (.cells #[.int .u8 1, .int .i64 a, .int .i64 y, .int .i64 n] 36)).heap.size = w.heap.size + 1 := al_size _ _
 have hf := fresh_w (w.alloc (.cells #[.int .u8 1, .int .i64 a, .int .i64 y, .int .i64 n] 36))
 rw [hs1] at hf
 have hb1 : Below w.heap.size w (w.alloc (.cells #[.int .u8 1, .int .i64 a, .int .i64 y, .int .i64 n] 36)) := (Below.refl _ w).alloc (Nat.le_refl _) _
 have hb2 : Below w.heap.size w ((w.alloc (.cells #[.int .u8 1, .int .i64 a, .int .i64 y, .int .i64 n] 36)).alloc (.cells #[.pointer none, .slice none 0 0] 73)) := hb1.alloc (by rw [hs1]; omega) _
 have hp2 := hp.below hB hb2
 have hok : ∀ x ∈ [It.s [98, 114, 32, 37], It.i a, It.s [44, 32, 64], It.i y, It.s [44, 32, 64], It.i n], x.ok := by
  intro x hx
  simp only [List.mem_cons, List.not_mem_nil, or_false] at hx
  rcases hx with rfl | rfl | rfl | rfl | rfl | rfl <;> first | exact ha | exact hy | exact hn | simp [It.ok]
 have hput := fun k hk => put_top [] [It.s [98, 114, 32, 37], It.i a, It.s [44, 32, 64], It.i y, It.s [44, 32, 64], It.i n] _ (w.heap.size + 1) (w.heap.size + 1) k hf hk hok (Nat.le_of_ble_eq_true rfl) (Nat.le_of_ble_eq_true rfl) hp2 (by omega) (by simp only [al_size]; omega)
 go_enter Tryd.func10, Tryd.ntmps10
 go_wp2_with (go_at_call 22; go_loud (refine (hput _ (by simp only [al_size])).mono ?_))
 rintro e w3 ⟨rfl, h1, b1⟩
 go_wp2_with (go_at_call 24; refine (str_any _ _ _ _ h1 (by simp [itB, It.b])).mono ?_)
 rintro e w4 ⟨rfl, b2⟩
 go_wp2
 go_ret
 exact ⟨rfl, (hb2.trans (b1.mono (by omega))).trans (b2.mono (by omega))⟩
set_option maxHeartbeats 1000000 in
set_option maxRecDepth 100000 in
theorem last_2 (a y n : Int) (ha : -9223372036854775808 ≤ a ∧ a ≤ 9223372036854775807) (hy : -9223372036854775808 ≤ y ∧ y ≤ 9223372036854775807) (hn : -9223372036854775808 ≤ n ∧ n ≤ 9223372036854775807) (w : World) (hp : Pow w) (hB : 1 < w.heap.size) :
 Calls Tryd.prog 10 #[.agg #[.int .u8 2, .int .i64 a, .int .i64 y, .int .i64 n]] w fun e w' => e = .returned (.string ⟨(itB (lastIt 2 a y n)).toArray⟩) ∧ Below w.heap.size w w' := by
 have hs1 : (w.alloc (.cells #[.int .u8 2, .int .i64 a, .int .i64 y, .int .i64 n] 36)).heap.size = w.heap.size + 1 := al_size _ _
 have hf := fresh_w (w.alloc (.cells #[.int .u8 2, .int .i64 a, .int .i64 y, .int .i64 n] 36))
 rw [hs1] at hf
 have hb1 : Below w.heap.size w (w.alloc (.cells #[.int .u8 2, .int .i64 a, .int .i64 y, .int .i64 n] 36)) := (Below.refl _ w).alloc (Nat.le_refl _) _
 have hb2 : Below w.heap.size w ((w.alloc (.cells #[.int .u8 2, .int .i64 a, .int .i64 y, .int .i64 n] 36)).alloc (.cells #[.pointer none, .slice none 0 0] 73)) := hb1.alloc (by rw [hs1]; omega) _
 have hp2 := hp.below hB hb2
 have hok : ∀ x ∈ [It.s [114, 101, 116, 32, 37], It.i a], x.ok := by
  intro x hx
  simp only [List.mem_cons, List.not_mem_nil, or_false] at hx
  rcases hx with rfl | rfl <;> first | exact ha | exact hy | exact hn | simp [It.ok]
 have hput := fun k hk => put_top [] [It.s [114, 101, 116, 32, 37], It.i a] _ (w.heap.size + 1) (w.heap.size + 1) k hf hk hok (Nat.le_of_ble_eq_true rfl) (Nat.le_of_ble_eq_true rfl) hp2 (by omega) (by simp only [al_size]; omega)
 go_enter Tryd.func10, Tryd.ntmps10
 go_wp2_with (go_at_call 22; go_loud (refine (hput _ (by simp only [al_size])).mono ?_))
 rintro e w3 ⟨rfl, h1, b1⟩
 go_wp2_with (go_at_call 24; refine (str_any _ _ _ _ h1 (by simp [itB, It.b])).mono ?_)
 rintro e w4 ⟨rfl, b2⟩
 go_wp2
 go_ret
 exact ⟨rfl, (hb2.trans (b1.mono (by omega))).trans (b2.mono (by omega))⟩
set_option maxHeartbeats 1000000 in
set_option maxRecDepth 100000 in
theorem last_3 (a y n : Int) (ha : -9223372036854775808 ≤ a ∧ a ≤ 9223372036854775807) (hy : -9223372036854775808 ≤ y ∧ y ≤ 9223372036854775807) (hn : -9223372036854775808 ≤ n ∧ n ≤ 9223372036854775807) (w : World) (hp : Pow w) (hB : 1 < w.heap.size) :
 Calls Tryd.prog 10 #[.agg #[.int .u8 3, .int .i64 a, .int .i64 y, .int .i64 n]] w fun e w' => e = .returned (.string ⟨(itB (lastIt 3 a y n)).toArray⟩) ∧ Below w.heap.size w w' := by
 have hs1 : (w.alloc (.cells #[.int .u8 3, .int .i64 a, .int .i64 y, .int .i64 n] 36)).heap.size = w.heap.size + 1 := al_size _ _
 have hf := fresh_w (w.alloc (.cells #[.int .u8 3, .int .i64 a, .int .i64 y, .int .i64 n] 36))
 rw [hs1] at hf
 have hb1 : Below w.heap.size w (w.alloc (.cells #[.int .u8 3, .int .i64 a, .int .i64 y, .int .i64 n] 36)) := (Below.refl _ w).alloc (Nat.le_refl _) _
 have hb2 : Below w.heap.size w ((w.alloc (.cells #[.int .u8 3, .int .i64 a, .int .i64 y, .int .i64 n] 36)).alloc (.cells #[.pointer none, .slice none 0 0] 73)) := hb1.alloc (by rw [hs1]; omega) _
 have hp2 := hp.below hB hb2
 have hok : ∀ x ∈ [It.s [116, 114, 97, 112]], x.ok := by
  intro x hx
  simp only [List.mem_cons, List.not_mem_nil, or_false] at hx
  rcases hx with rfl <;> first | exact ha | exact hy | exact hn | simp [It.ok]
 have hput := fun k hk => put_top [] [It.s [116, 114, 97, 112]] _ (w.heap.size + 1) (w.heap.size + 1) k hf hk hok (Nat.le_of_ble_eq_true rfl) (Nat.le_of_ble_eq_true rfl) hp2 (by omega) (by simp only [al_size]; omega)
 go_enter Tryd.func10, Tryd.ntmps10
 go_wp2_with (go_at_call 22; go_loud (refine (hput _ (by simp only [al_size])).mono ?_))
 rintro e w3 ⟨rfl, h1, b1⟩
 go_wp2_with (go_at_call 24; refine (str_any _ _ _ _ h1 (by simp [itB, It.b])).mono ?_)
 rintro e w4 ⟨rfl, b2⟩
 go_wp2
 go_ret
 exact ⟨rfl, (hb2.trans (b1.mono (by omega))).trans (b2.mono (by omega))⟩
theorem last_any (k a y n : Int) (hk : 0 ≤ k ∧ k < 4) (ha : -9223372036854775808 ≤ a ∧ a ≤ 9223372036854775807) (hy : -9223372036854775808 ≤ y ∧ y ≤ 9223372036854775807) (hn : -9223372036854775808 ≤ n ∧ n ≤ 9223372036854775807) (w : World) (hp : Pow w) (hB : 1 < w.heap.size) :
 Calls Tryd.prog 10 #[.agg #[.int .u8 k, .int .i64 a, .int .i64 y, .int .i64 n]] w fun e w' => e = .returned (.string ⟨(itB (lastIt k a y n)).toArray⟩) ∧ Below w.heap.size w w' := by
 have : k = 0 ∨ k = 1 ∨ k = 2 ∨ k = 3 := by omega
 rcases this with rfl | rfl | rfl | rfl
 ·exact last_0 a y n ha hy hn w hp hB
 ·exact last_1 a y n ha hy hn w hp hB
 ·exact last_2 a y n ha hy hn w hp hB
 ·exact last_3 a y n ha hy hn w hp hB
end Go.Proofs
end
section
set_option linter.unusedVariables false
set_option linter.unusedSimpArgs false
set_option linter.unusedSectionVars false
set_option linter.unnecessarySimpa false
namespace Go.Proofs
open Go.RowKit Go.Lib
def Nam (w : World) : Prop := ∀ c, c < 12 → w.cell? ⟨0, c, none⟩ = some (.string ⟨(namesL.getD c []).toArray⟩)
theorem Nam.below {B : Nat} {w w' : World} (h : Nam w) (hB : 1 < B) (k : Below B w w') : Nam w' := fun c hc => by
 rw [k.cell (p := ⟨0, c, none⟩) (by show 0 < B; omega)]; exact h c hc
set_option maxRecDepth 100000 in
theorem name_any (c : Nat) (hc : c < 12) (w : World) (hn : Nam w) : Calls Tryd.prog 23 #[.int .u8 c] w fun e w' => e = .returned (.string ⟨(namesL.getD c []).toArray⟩) ∧ w' = w := by
 have h0 := hn c hc
 go_enter Tryd.func23, Tryd.ntmps23
 go_wp2
 go_ret
 exact ⟨rfl, rfl⟩
set_option maxRecDepth 100000 in
theorem sets_0 (c d a b n s : Int) (w : World) : Calls Tryd.prog 21 #[.agg #[.int .u8 0, .int .u8 c, .int .i64 d, .int .i64 a, .int .i64 b, .int .i64 n, .int .i64 s]] w fun e w' => e = .returned (.tuple #[.int .i64 d, .bool true]) ∧ Below w.heap.size w w' := by
 go_enter Tryd.func21, Tryd.ntmps21
 go_wp2
 go_ret2
 exact ⟨rfl, (Below.refl _ w).alloc (Nat.le_refl _) _⟩
set_option maxRecDepth 100000 in
theorem sets_1 (c d a b n s : Int) (w : World) : Calls Tryd.prog 21 #[.agg #[.int .u8 1, .int .u8 c, .int .i64 d, .int .i64 a, .int .i64 b, .int .i64 n, .int .i64 s]] w fun e w' => e = .returned (.tuple #[.int .i64 d, .bool true]) ∧ Below w.heap.size w w' := by
 go_enter Tryd.func21, Tryd.ntmps21
 go_wp2
 go_ret2
 exact ⟨rfl, (Below.refl _ w).alloc (Nat.le_refl _) _⟩
set_option maxRecDepth 100000 in
theorem sets_2 (c d a b n s : Int) (w : World) : Calls Tryd.prog 21 #[.agg #[.int .u8 2, .int .u8 c, .int .i64 d, .int .i64 a, .int .i64 b, .int .i64 n, .int .i64 s]] w fun e w' => e = .returned (.tuple #[.int .i64 d, .bool true]) ∧ Below w.heap.size w w' := by
 go_enter Tryd.func21, Tryd.ntmps21
 go_wp2
 go_ret2
 exact ⟨rfl, (Below.refl _ w).alloc (Nat.le_refl _) _⟩
set_option maxRecDepth 100000 in
theorem sets_3 (c d a b n s : Int) (w : World) : Calls Tryd.prog 21 #[.agg #[.int .u8 3, .int .u8 c, .int .i64 d, .int .i64 a, .int .i64 b, .int .i64 n, .int .i64 s]] w fun e w' => e = .returned (.tuple #[.int .i64 d, .bool true]) ∧ Below w.heap.size w w' := by
 go_enter Tryd.func21, Tryd.ntmps21
 go_wp2
 go_ret2
 exact ⟨rfl, (Below.refl _ w).alloc (Nat.le_refl _) _⟩
set_option maxRecDepth 100000 in
theorem sets_4 (c d a b n s : Int) (w : World) : Calls Tryd.prog 21 #[.agg #[.int .u8 4, .int .u8 c, .int .i64 d, .int .i64 a, .int .i64 b, .int .i64 n, .int .i64 s]] w fun e w' => e = .returned (.tuple #[.int .i64 0, .bool false]) ∧ Below w.heap.size w w' := by
 go_enter Tryd.func21, Tryd.ntmps21
 go_wp2
 go_ret2
 exact ⟨rfl, (Below.refl _ w).alloc (Nat.le_refl _) _⟩
set_option maxRecDepth 100000 in
theorem sets_5 (c d a b n s : Int) (w : World) : Calls Tryd.prog 21 #[.agg #[.int .u8 5, .int .u8 c, .int .i64 d, .int .i64 a, .int .i64 b, .int .i64 n, .int .i64 s]] w fun e w' => e = .returned (.tuple #[.int .i64 d, .bool true]) ∧ Below w.heap.size w w' := by
 go_enter Tryd.func21, Tryd.ntmps21
 go_wp2
 go_ret2
 exact ⟨rfl, (Below.refl _ w).alloc (Nat.le_refl _) _⟩
set_option maxRecDepth 100000 in
theorem sets_6 (c d a b n s : Int) (w : World) : Calls Tryd.prog 21 #[.agg #[.int .u8 6, .int .u8 c, .int .i64 d, .int .i64 a, .int .i64 b, .int .i64 n, .int .i64 s]] w fun e w' => e = .returned (.tuple #[.int .i64 0, .bool false]) ∧ Below w.heap.size w w' := by
 go_enter Tryd.func21, Tryd.ntmps21
 go_wp2
 go_ret2
 exact ⟨rfl, (Below.refl _ w).alloc (Nat.le_refl _) _⟩
set_option maxRecDepth 100000 in
theorem sets_7 (c d a b n s : Int) (w : World) : Calls Tryd.prog 21 #[.agg #[.int .u8 7, .int .u8 c, .int .i64 d, .int .i64 a, .int .i64 b, .int .i64 n, .int .i64 s]] w fun e w' => e = .returned (.tuple #[.int .i64 d, .bool true]) ∧ Below w.heap.size w w' := by
 go_enter Tryd.func21, Tryd.ntmps21
 go_wp2
 go_ret2
 exact ⟨rfl, (Below.refl _ w).alloc (Nat.le_refl _) _⟩
set_option maxRecDepth 100000 in
theorem sets_8 (c d a b n s : Int) (w : World) : Calls Tryd.prog 21 #[.agg #[.int .u8 8, .int .u8 c, .int .i64 d, .int .i64 a, .int .i64 b, .int .i64 n, .int .i64 s]] w fun e w' => e = .returned (.tuple #[.int .i64 0, .bool false]) ∧ Below w.heap.size w w' := by
 go_enter Tryd.func21, Tryd.ntmps21
 go_wp2
 go_ret2
 exact ⟨rfl, (Below.refl _ w).alloc (Nat.le_refl _) _⟩
set_option maxHeartbeats 2000000 in
set_option maxRecDepth 100000 in
theorem instr_0 (c d a b n s : Int) (hd : Fit d) (ha : Fit a) (hb : Fit b) (hn : Fit n) (hs : Fit s) (w : World) (hp : Pow w) (hB : 1 < w.heap.size) :
 Calls Tryd.prog 9 #[.agg #[.int .u8 0, .int .u8 c, .int .i64 d, .int .i64 a, .int .i64 b, .int .i64 n, .int .i64 s]] w fun e w' => e = .returned (.string ⟨(itB ([It.s [37], It.i d, It.s [32, 61, 32]] ++ [It.l n])).toArray⟩) ∧ Below w.heap.size w w' := by
 have hf := fresh_w (w.alloc (.cells #[.int .u8 0, .int .u8 c, .int .i64 d, .int .i64 a, .int .i64 b, .int .i64 n, .int .i64 s] 32))
 rw [al_size] at hf
 have hb1 : Below w.heap.size w (w.alloc (.cells #[.int .u8 0, .int .u8 c, .int .i64 d, .int .i64 a, .int .i64 b, .int .i64 n, .int .i64 s] 32)) := (Below.refl _ w).alloc (Nat.le_refl _) _
 have hb2 : Below w.heap.size w ((w.alloc (.cells #[.int .u8 0, .int .u8 c, .int .i64 d, .int .i64 a, .int .i64 b, .int .i64 n, .int .i64 s] 32)).alloc (.cells #[.pointer none, .slice none 0 0] 73)) := hb1.alloc (by simp only [al_size]; omega) _
 have hblk2 : ((w.alloc (.cells #[.int .u8 0, .int .u8 c, .int .i64 d, .int .i64 a, .int .i64 b, .int .i64 n, .int .i64 s] 32)).alloc (.cells #[.pointer none, .slice none 0 0] 73)).heap[w.heap.size]? = some (.cells #[.int .u8 0, .int .u8 c, .int .i64 d, .int .i64 a, .int .i64 b, .int .i64 n, .int .i64 s] 32) := by
  rw [alloc_old _ _ _ (by simp only [al_size]; omega), heap_alloc_new]
 have hs2 : ((w.alloc (.cells #[.int .u8 0, .int .u8 c, .int .i64 d, .int .i64 a, .int .i64 b, .int .i64 n, .int .i64 s] 32)).alloc (.cells #[.pointer none, .slice none 0 0] 73)).heap.size = w.heap.size + 1 + 1 := by simp only [al_size]
 have hok : ∀ x ∈ [It.s [37], It.i d, It.s [32, 61, 32]], x.ok := by
  intro x hx
  simp only [List.mem_cons, List.not_mem_nil, or_false] at hx
  rcases hx with rfl | rfl | rfl <;> first | exact hd | exact ha | exact hb | exact hn | exact hs | simp [It.ok]
 have hok2 : ∀ x ∈ [It.l n], x.ok := by
  intro x hx
  simp only [List.mem_cons, List.not_mem_nil, or_false] at hx
  rcases hx with rfl <;> first | exact hd | exact ha | exact hb | exact hn | exact hs | simp [It.ok]
 go_enter Tryd.func9, Tryd.ntmps9
 go_wp2_with (go_at_call 21; go_loud (refine (sets_0 _ _ _ _ _ _ _).mono ?_))
 rintro e w1 ⟨rfl, b0⟩
 rw [hs2] at b0
 have hf1 := Bf_below hf (by rw [hs2]; exact b0)
 have hsz := b0.size
 rw [hs2] at hsz
 have hb3 := hb2.trans (b0.mono (by omega))
 have hp3 := hp.below hB hb3
 have hput := fun k hk => put_top [] [It.s [37], It.i d, It.s [32, 61, 32]] w1 (w.heap.size + 1) (w.heap.size + 1) k hf1 hk hok (Nat.le_of_ble_eq_true rfl) (Nat.le_of_ble_eq_true rfl) hp3 (by omega) (by omega)
 go_wp2_with (go_at_call 22; go_loud (refine (hput _ rfl).mono ?_))
 rintro e w3 ⟨rfl, h1, b1⟩
 have hsz3 := b1.size
 have hp4 := hp3.below (by omega) b1
 have hblk : w3.heap[w.heap.size]? = some (.cells #[.int .u8 0, .int .u8 c, .int .i64 d, .int .i64 a, .int .i64 b, .int .i64 n, .int .i64 s] 32) := by rw [b1.block _ (by omega), b0.block _ (by omega), hblk2]
 have hc0 : w3.cell? ⟨w.heap.size, 0, none⟩ = some (.int .u8 0) := by rw [cell_of_heap hblk]; rfl
 have hc1 : w3.cell? ⟨w.heap.size, 1, none⟩ = some (.int .u8 c) := by rw [cell_of_heap hblk]; rfl
 have hc2 : w3.cell? ⟨w.heap.size, 2, none⟩ = some (.int .i64 d) := by rw [cell_of_heap hblk]; rfl
 have hc3 : w3.cell? ⟨w.heap.size, 3, none⟩ = some (.int .i64 a) := by rw [cell_of_heap hblk]; rfl
 have hc4 : w3.cell? ⟨w.heap.size, 4, none⟩ = some (.int .i64 b) := by rw [cell_of_heap hblk]; rfl
 have hc5 : w3.cell? ⟨w.heap.size, 5, none⟩ = some (.int .i64 n) := by rw [cell_of_heap hblk]; rfl
 have hc6 : w3.cell? ⟨w.heap.size, 6, none⟩ = some (.int .i64 s) := by rw [cell_of_heap hblk]; rfl
 have hput2 := fun k hk => put_top _ [It.l n] w3 (w.heap.size + 1) (w.heap.size + 1) k h1 hk hok2 (Nat.le_of_ble_eq_true rfl) (by
  have := itB_len hok
  rw [List.nil_append]
  exact Nat.le_trans this (Nat.le_of_ble_eq_true rfl)) hp4 (by omega) (by omega)
 go_wp2_with (go_at_call 22; go_loud (refine (hput2 _ rfl).mono ?_))
 rintro e w5 ⟨rfl, h5, b5⟩
 go_wp2_with (go_at_call 24; go_loud (refine (str_any _ _ _ _ h5 (by simp [itB, It.b])).mono ?_))
 rintro e w6 ⟨rfl, b6⟩
 go_wp2
 go_ret
 exact ⟨by simp [itB], ((hb3.trans (b1.mono (by omega))).trans (b5.mono (by omega))).trans (b6.mono (by omega))⟩
set_option maxHeartbeats 2000000 in
set_option maxRecDepth 100000 in
theorem instr_1 (c d a b n s : Int) (hd : Fit d) (ha : Fit a) (hb : Fit b) (hn : Fit n) (hs : Fit s) (w : World) (hp : Pow w) (hB : 1 < w.heap.size) :
 Calls Tryd.prog 9 #[.agg #[.int .u8 1, .int .u8 c, .int .i64 d, .int .i64 a, .int .i64 b, .int .i64 n, .int .i64 s]] w fun e w' => e = .returned (.string ⟨(itB ([It.s [37], It.i d, It.s [32, 61, 32]] ++ [It.s [37], It.i a])).toArray⟩) ∧ Below w.heap.size w w' := by
 have hf := fresh_w (w.alloc (.cells #[.int .u8 1, .int .u8 c, .int .i64 d, .int .i64 a, .int .i64 b, .int .i64 n, .int .i64 s] 32))
 rw [al_size] at hf
 have hb1 : Below w.heap.size w (w.alloc (.cells #[.int .u8 1, .int .u8 c, .int .i64 d, .int .i64 a, .int .i64 b, .int .i64 n, .int .i64 s] 32)) := (Below.refl _ w).alloc (Nat.le_refl _) _
 have hb2 : Below w.heap.size w ((w.alloc (.cells #[.int .u8 1, .int .u8 c, .int .i64 d, .int .i64 a, .int .i64 b, .int .i64 n, .int .i64 s] 32)).alloc (.cells #[.pointer none, .slice none 0 0] 73)) := hb1.alloc (by simp only [al_size]; omega) _
 have hblk2 : ((w.alloc (.cells #[.int .u8 1, .int .u8 c, .int .i64 d, .int .i64 a, .int .i64 b, .int .i64 n, .int .i64 s] 32)).alloc (.cells #[.pointer none, .slice none 0 0] 73)).heap[w.heap.size]? = some (.cells #[.int .u8 1, .int .u8 c, .int .i64 d, .int .i64 a, .int .i64 b, .int .i64 n, .int .i64 s] 32) := by
  rw [alloc_old _ _ _ (by simp only [al_size]; omega), heap_alloc_new]
 have hs2 : ((w.alloc (.cells #[.int .u8 1, .int .u8 c, .int .i64 d, .int .i64 a, .int .i64 b, .int .i64 n, .int .i64 s] 32)).alloc (.cells #[.pointer none, .slice none 0 0] 73)).heap.size = w.heap.size + 1 + 1 := by simp only [al_size]
 have hok : ∀ x ∈ [It.s [37], It.i d, It.s [32, 61, 32]], x.ok := by
  intro x hx
  simp only [List.mem_cons, List.not_mem_nil, or_false] at hx
  rcases hx with rfl | rfl | rfl <;> first | exact hd | exact ha | exact hb | exact hn | exact hs | simp [It.ok]
 have hok2 : ∀ x ∈ [It.s [37], It.i a], x.ok := by
  intro x hx
  simp only [List.mem_cons, List.not_mem_nil, or_false] at hx
  rcases hx with rfl | rfl <;> first | exact hd | exact ha | exact hb | exact hn | exact hs | simp [It.ok]
 go_enter Tryd.func9, Tryd.ntmps9
 go_wp2_with (go_at_call 21; go_loud (refine (sets_1 _ _ _ _ _ _ _).mono ?_))
 rintro e w1 ⟨rfl, b0⟩
 rw [hs2] at b0
 have hf1 := Bf_below hf (by rw [hs2]; exact b0)
 have hsz := b0.size
 rw [hs2] at hsz
 have hb3 := hb2.trans (b0.mono (by omega))
 have hp3 := hp.below hB hb3
 have hput := fun k hk => put_top [] [It.s [37], It.i d, It.s [32, 61, 32]] w1 (w.heap.size + 1) (w.heap.size + 1) k hf1 hk hok (Nat.le_of_ble_eq_true rfl) (Nat.le_of_ble_eq_true rfl) hp3 (by omega) (by omega)
 go_wp2_with (go_at_call 22; go_loud (refine (hput _ rfl).mono ?_))
 rintro e w3 ⟨rfl, h1, b1⟩
 have hsz3 := b1.size
 have hp4 := hp3.below (by omega) b1
 have hblk : w3.heap[w.heap.size]? = some (.cells #[.int .u8 1, .int .u8 c, .int .i64 d, .int .i64 a, .int .i64 b, .int .i64 n, .int .i64 s] 32) := by rw [b1.block _ (by omega), b0.block _ (by omega), hblk2]
 have hc0 : w3.cell? ⟨w.heap.size, 0, none⟩ = some (.int .u8 1) := by rw [cell_of_heap hblk]; rfl
 have hc1 : w3.cell? ⟨w.heap.size, 1, none⟩ = some (.int .u8 c) := by rw [cell_of_heap hblk]; rfl
 have hc2 : w3.cell? ⟨w.heap.size, 2, none⟩ = some (.int .i64 d) := by rw [cell_of_heap hblk]; rfl
 have hc3 : w3.cell? ⟨w.heap.size, 3, none⟩ = some (.int .i64 a) := by rw [cell_of_heap hblk]; rfl
 have hc4 : w3.cell? ⟨w.heap.size, 4, none⟩ = some (.int .i64 b) := by rw [cell_of_heap hblk]; rfl
 have hc5 : w3.cell? ⟨w.heap.size, 5, none⟩ = some (.int .i64 n) := by rw [cell_of_heap hblk]; rfl
 have hc6 : w3.cell? ⟨w.heap.size, 6, none⟩ = some (.int .i64 s) := by rw [cell_of_heap hblk]; rfl
 have hput2 := fun k hk => put_top _ [It.s [37], It.i a] w3 (w.heap.size + 1) (w.heap.size + 1) k h1 hk hok2 (Nat.le_of_ble_eq_true rfl) (by
  have := itB_len hok
  rw [List.nil_append]
  exact Nat.le_trans this (Nat.le_of_ble_eq_true rfl)) hp4 (by omega) (by omega)
 go_wp2_with (go_at_call 22; go_loud (refine (hput2 _ rfl).mono ?_))
 rintro e w5 ⟨rfl, h5, b5⟩
 go_wp2_with (go_at_call 24; go_loud (refine (str_any _ _ _ _ h5 (by simp [itB, It.b])).mono ?_))
 rintro e w6 ⟨rfl, b6⟩
 go_wp2
 go_ret
 exact ⟨by simp [itB], ((hb3.trans (b1.mono (by omega))).trans (b5.mono (by omega))).trans (b6.mono (by omega))⟩
set_option maxHeartbeats 2000000 in
set_option maxRecDepth 100000 in
theorem instr_3 (c d a b n s : Int) (hd : Fit d) (ha : Fit a) (hb : Fit b) (hn : Fit n) (hs : Fit s) (w : World) (hp : Pow w) (hB : 1 < w.heap.size) :
 Calls Tryd.prog 9 #[.agg #[.int .u8 3, .int .u8 c, .int .i64 d, .int .i64 a, .int .i64 b, .int .i64 n, .int .i64 s]] w fun e w' => e = .returned (.string ⟨(itB ([It.s [37], It.i d, It.s [32, 61, 32]] ++ [It.s [105, 110]])).toArray⟩) ∧ Below w.heap.size w w' := by
 have hf := fresh_w (w.alloc (.cells #[.int .u8 3, .int .u8 c, .int .i64 d, .int .i64 a, .int .i64 b, .int .i64 n, .int .i64 s] 32))
 rw [al_size] at hf
 have hb1 : Below w.heap.size w (w.alloc (.cells #[.int .u8 3, .int .u8 c, .int .i64 d, .int .i64 a, .int .i64 b, .int .i64 n, .int .i64 s] 32)) := (Below.refl _ w).alloc (Nat.le_refl _) _
 have hb2 : Below w.heap.size w ((w.alloc (.cells #[.int .u8 3, .int .u8 c, .int .i64 d, .int .i64 a, .int .i64 b, .int .i64 n, .int .i64 s] 32)).alloc (.cells #[.pointer none, .slice none 0 0] 73)) := hb1.alloc (by simp only [al_size]; omega) _
 have hblk2 : ((w.alloc (.cells #[.int .u8 3, .int .u8 c, .int .i64 d, .int .i64 a, .int .i64 b, .int .i64 n, .int .i64 s] 32)).alloc (.cells #[.pointer none, .slice none 0 0] 73)).heap[w.heap.size]? = some (.cells #[.int .u8 3, .int .u8 c, .int .i64 d, .int .i64 a, .int .i64 b, .int .i64 n, .int .i64 s] 32) := by
  rw [alloc_old _ _ _ (by simp only [al_size]; omega), heap_alloc_new]
 have hs2 : ((w.alloc (.cells #[.int .u8 3, .int .u8 c, .int .i64 d, .int .i64 a, .int .i64 b, .int .i64 n, .int .i64 s] 32)).alloc (.cells #[.pointer none, .slice none 0 0] 73)).heap.size = w.heap.size + 1 + 1 := by simp only [al_size]
 have hok : ∀ x ∈ [It.s [37], It.i d, It.s [32, 61, 32]], x.ok := by
  intro x hx
  simp only [List.mem_cons, List.not_mem_nil, or_false] at hx
  rcases hx with rfl | rfl | rfl <;> first | exact hd | exact ha | exact hb | exact hn | exact hs | simp [It.ok]
 have hok2 : ∀ x ∈ [It.s [105, 110]], x.ok := by
  intro x hx
  simp only [List.mem_cons, List.not_mem_nil, or_false] at hx
  rcases hx with rfl <;> first | exact hd | exact ha | exact hb | exact hn | exact hs | simp [It.ok]
 go_enter Tryd.func9, Tryd.ntmps9
 go_wp2_with (go_at_call 21; go_loud (refine (sets_3 _ _ _ _ _ _ _).mono ?_))
 rintro e w1 ⟨rfl, b0⟩
 rw [hs2] at b0
 have hf1 := Bf_below hf (by rw [hs2]; exact b0)
 have hsz := b0.size
 rw [hs2] at hsz
 have hb3 := hb2.trans (b0.mono (by omega))
 have hp3 := hp.below hB hb3
 have hput := fun k hk => put_top [] [It.s [37], It.i d, It.s [32, 61, 32]] w1 (w.heap.size + 1) (w.heap.size + 1) k hf1 hk hok (Nat.le_of_ble_eq_true rfl) (Nat.le_of_ble_eq_true rfl) hp3 (by omega) (by omega)
 go_wp2_with (go_at_call 22; go_loud (refine (hput _ rfl).mono ?_))
 rintro e w3 ⟨rfl, h1, b1⟩
 have hsz3 := b1.size
 have hp4 := hp3.below (by omega) b1
 have hblk : w3.heap[w.heap.size]? = some (.cells #[.int .u8 3, .int .u8 c, .int .i64 d, .int .i64 a, .int .i64 b, .int .i64 n, .int .i64 s] 32) := by rw [b1.block _ (by omega), b0.block _ (by omega), hblk2]
 have hc0 : w3.cell? ⟨w.heap.size, 0, none⟩ = some (.int .u8 3) := by rw [cell_of_heap hblk]; rfl
 have hc1 : w3.cell? ⟨w.heap.size, 1, none⟩ = some (.int .u8 c) := by rw [cell_of_heap hblk]; rfl
 have hc2 : w3.cell? ⟨w.heap.size, 2, none⟩ = some (.int .i64 d) := by rw [cell_of_heap hblk]; rfl
 have hc3 : w3.cell? ⟨w.heap.size, 3, none⟩ = some (.int .i64 a) := by rw [cell_of_heap hblk]; rfl
 have hc4 : w3.cell? ⟨w.heap.size, 4, none⟩ = some (.int .i64 b) := by rw [cell_of_heap hblk]; rfl
 have hc5 : w3.cell? ⟨w.heap.size, 5, none⟩ = some (.int .i64 n) := by rw [cell_of_heap hblk]; rfl
 have hc6 : w3.cell? ⟨w.heap.size, 6, none⟩ = some (.int .i64 s) := by rw [cell_of_heap hblk]; rfl
 have hput2 := fun k hk => put_top _ [It.s [105, 110]] w3 (w.heap.size + 1) (w.heap.size + 1) k h1 hk hok2 (Nat.le_of_ble_eq_true rfl) (by
  have := itB_len hok
  rw [List.nil_append]
  exact Nat.le_trans this (Nat.le_of_ble_eq_true rfl)) hp4 (by omega) (by omega)
 go_wp2_with (go_at_call 22; go_loud (refine (hput2 _ rfl).mono ?_))
 rintro e w5 ⟨rfl, h5, b5⟩
 go_wp2_with (go_at_call 24; go_loud (refine (str_any _ _ _ _ h5 (by simp [itB, It.b])).mono ?_))
 rintro e w6 ⟨rfl, b6⟩
 go_wp2
 go_ret
 exact ⟨by simp [itB], ((hb3.trans (b1.mono (by omega))).trans (b5.mono (by omega))).trans (b6.mono (by omega))⟩
set_option maxHeartbeats 2000000 in
set_option maxRecDepth 100000 in
theorem instr_4 (c d a b n s : Int) (hd : Fit d) (ha : Fit a) (hb : Fit b) (hn : Fit n) (hs : Fit s) (w : World) (hp : Pow w) (hB : 1 < w.heap.size) :
 Calls Tryd.prog 9 #[.agg #[.int .u8 4, .int .u8 c, .int .i64 d, .int .i64 a, .int .i64 b, .int .i64 n, .int .i64 s]] w fun e w' => e = .returned (.string ⟨(itB ([It.s [111, 117, 116, 32, 37], It.i a])).toArray⟩) ∧ Below w.heap.size w w' := by
 have hf := fresh_w (w.alloc (.cells #[.int .u8 4, .int .u8 c, .int .i64 d, .int .i64 a, .int .i64 b, .int .i64 n, .int .i64 s] 32))
 rw [al_size] at hf
 have hb1 : Below w.heap.size w (w.alloc (.cells #[.int .u8 4, .int .u8 c, .int .i64 d, .int .i64 a, .int .i64 b, .int .i64 n, .int .i64 s] 32)) := (Below.refl _ w).alloc (Nat.le_refl _) _
 have hb2 : Below w.heap.size w ((w.alloc (.cells #[.int .u8 4, .int .u8 c, .int .i64 d, .int .i64 a, .int .i64 b, .int .i64 n, .int .i64 s] 32)).alloc (.cells #[.pointer none, .slice none 0 0] 73)) := hb1.alloc (by simp only [al_size]; omega) _
 have hblk2 : ((w.alloc (.cells #[.int .u8 4, .int .u8 c, .int .i64 d, .int .i64 a, .int .i64 b, .int .i64 n, .int .i64 s] 32)).alloc (.cells #[.pointer none, .slice none 0 0] 73)).heap[w.heap.size]? = some (.cells #[.int .u8 4, .int .u8 c, .int .i64 d, .int .i64 a, .int .i64 b, .int .i64 n, .int .i64 s] 32) := by
  rw [alloc_old _ _ _ (by simp only [al_size]; omega), heap_alloc_new]
 have hs2 : ((w.alloc (.cells #[.int .u8 4, .int .u8 c, .int .i64 d, .int .i64 a, .int .i64 b, .int .i64 n, .int .i64 s] 32)).alloc (.cells #[.pointer none, .slice none 0 0] 73)).heap.size = w.heap.size + 1 + 1 := by simp only [al_size]
 have hok : ∀ x ∈ [It.s [37], It.i d, It.s [32, 61, 32]], x.ok := by
  intro x hx
  simp only [List.mem_cons, List.not_mem_nil, or_false] at hx
  rcases hx with rfl | rfl | rfl <;> first | exact hd | exact ha | exact hb | exact hn | exact hs | simp [It.ok]
 have hok2 : ∀ x ∈ [It.s [111, 117, 116, 32, 37], It.i a], x.ok := by
  intro x hx
  simp only [List.mem_cons, List.not_mem_nil, or_false] at hx
  rcases hx with rfl | rfl <;> first | exact hd | exact ha | exact hb | exact hn | exact hs | simp [It.ok]
 go_enter Tryd.func9, Tryd.ntmps9
 go_wp2_with (go_at_call 21; go_loud (refine (sets_4 _ _ _ _ _ _ _).mono ?_))
 rintro e w1 ⟨rfl, b0⟩
 rw [hs2] at b0
 have hf1 := Bf_below hf (by rw [hs2]; exact b0)
 have hsz := b0.size
 rw [hs2] at hsz
 have hb3 := hb2.trans (b0.mono (by omega))
 have hp3 := hp.below hB hb3
 have hblk : w1.heap[w.heap.size]? = some (.cells #[.int .u8 4, .int .u8 c, .int .i64 d, .int .i64 a, .int .i64 b, .int .i64 n, .int .i64 s] 32) := by rw [b0.block _ (by omega), hblk2]
 have hc0 : w1.cell? ⟨w.heap.size, 0, none⟩ = some (.int .u8 4) := by rw [cell_of_heap hblk]; rfl
 have hc1 : w1.cell? ⟨w.heap.size, 1, none⟩ = some (.int .u8 c) := by rw [cell_of_heap hblk]; rfl
 have hc2 : w1.cell? ⟨w.heap.size, 2, none⟩ = some (.int .i64 d) := by rw [cell_of_heap hblk]; rfl
 have hc3 : w1.cell? ⟨w.heap.size, 3, none⟩ = some (.int .i64 a) := by rw [cell_of_heap hblk]; rfl
 have hc4 : w1.cell? ⟨w.heap.size, 4, none⟩ = some (.int .i64 b) := by rw [cell_of_heap hblk]; rfl
 have hc5 : w1.cell? ⟨w.heap.size, 5, none⟩ = some (.int .i64 n) := by rw [cell_of_heap hblk]; rfl
 have hc6 : w1.cell? ⟨w.heap.size, 6, none⟩ = some (.int .i64 s) := by rw [cell_of_heap hblk]; rfl
 have hput2 := fun k hk => put_top [] [It.s [111, 117, 116, 32, 37], It.i a] w1 (w.heap.size + 1) (w.heap.size + 1) k hf1 hk hok2 (Nat.le_of_ble_eq_true rfl) (Nat.le_of_ble_eq_true rfl) hp3 (by omega) (by omega)
 go_wp2_with (go_at_call 22; go_loud (refine (hput2 _ rfl).mono ?_))
 rintro e w5 ⟨rfl, h5, b5⟩
 go_wp2_with (go_at_call 24; go_loud (refine (str_any _ _ _ _ h5 (by simp [itB, It.b])).mono ?_))
 rintro e w6 ⟨rfl, b6⟩
 go_wp2
 go_ret
 exact ⟨by simp [itB], (hb3.trans (b5.mono (by omega))).trans (b6.mono (by omega))⟩
set_option maxHeartbeats 2000000 in
set_option maxRecDepth 100000 in
theorem instr_5 (c d a b n s : Int) (hd : Fit d) (ha : Fit a) (hb : Fit b) (hn : Fit n) (hs : Fit s) (w : World) (hp : Pow w) (hB : 1 < w.heap.size) :
 Calls Tryd.prog 9 #[.agg #[.int .u8 5, .int .u8 c, .int .i64 d, .int .i64 a, .int .i64 b, .int .i64 n, .int .i64 s]] w fun e w' => e = .returned (.string ⟨(itB ([It.s [37], It.i d, It.s [32, 61, 32]] ++ [It.s [108, 111, 97, 100, 32, 36], It.i s])).toArray⟩) ∧ Below w.heap.size w w' := by
 have hf := fresh_w (w.alloc (.cells #[.int .u8 5, .int .u8 c, .int .i64 d, .int .i64 a, .int .i64 b, .int .i64 n, .int .i64 s] 32))
 rw [al_size] at hf
 have hb1 : Below w.heap.size w (w.alloc (.cells #[.int .u8 5, .int .u8 c, .int .i64 d, .int .i64 a, .int .i64 b, .int .i64 n, .int .i64 s] 32)) := (Below.refl _ w).alloc (Nat.le_refl _) _
 have hb2 : Below w.heap.size w ((w.alloc (.cells #[.int .u8 5, .int .u8 c, .int .i64 d, .int .i64 a, .int .i64 b, .int .i64 n, .int .i64 s] 32)).alloc (.cells #[.pointer none, .slice none 0 0] 73)) := hb1.alloc (by simp only [al_size]; omega) _
 have hblk2 : ((w.alloc (.cells #[.int .u8 5, .int .u8 c, .int .i64 d, .int .i64 a, .int .i64 b, .int .i64 n, .int .i64 s] 32)).alloc (.cells #[.pointer none, .slice none 0 0] 73)).heap[w.heap.size]? = some (.cells #[.int .u8 5, .int .u8 c, .int .i64 d, .int .i64 a, .int .i64 b, .int .i64 n, .int .i64 s] 32) := by
  rw [alloc_old _ _ _ (by simp only [al_size]; omega), heap_alloc_new]
 have hs2 : ((w.alloc (.cells #[.int .u8 5, .int .u8 c, .int .i64 d, .int .i64 a, .int .i64 b, .int .i64 n, .int .i64 s] 32)).alloc (.cells #[.pointer none, .slice none 0 0] 73)).heap.size = w.heap.size + 1 + 1 := by simp only [al_size]
 have hok : ∀ x ∈ [It.s [37], It.i d, It.s [32, 61, 32]], x.ok := by
  intro x hx
  simp only [List.mem_cons, List.not_mem_nil, or_false] at hx
  rcases hx with rfl | rfl | rfl <;> first | exact hd | exact ha | exact hb | exact hn | exact hs | simp [It.ok]
 have hok2 : ∀ x ∈ [It.s [108, 111, 97, 100, 32, 36], It.i s], x.ok := by
  intro x hx
  simp only [List.mem_cons, List.not_mem_nil, or_false] at hx
  rcases hx with rfl | rfl <;> first | exact hd | exact ha | exact hb | exact hn | exact hs | simp [It.ok]
 go_enter Tryd.func9, Tryd.ntmps9
 go_wp2_with (go_at_call 21; go_loud (refine (sets_5 _ _ _ _ _ _ _).mono ?_))
 rintro e w1 ⟨rfl, b0⟩
 rw [hs2] at b0
 have hf1 := Bf_below hf (by rw [hs2]; exact b0)
 have hsz := b0.size
 rw [hs2] at hsz
 have hb3 := hb2.trans (b0.mono (by omega))
 have hp3 := hp.below hB hb3
 have hput := fun k hk => put_top [] [It.s [37], It.i d, It.s [32, 61, 32]] w1 (w.heap.size + 1) (w.heap.size + 1) k hf1 hk hok (Nat.le_of_ble_eq_true rfl) (Nat.le_of_ble_eq_true rfl) hp3 (by omega) (by omega)
 go_wp2_with (go_at_call 22; go_loud (refine (hput _ rfl).mono ?_))
 rintro e w3 ⟨rfl, h1, b1⟩
 have hsz3 := b1.size
 have hp4 := hp3.below (by omega) b1
 have hblk : w3.heap[w.heap.size]? = some (.cells #[.int .u8 5, .int .u8 c, .int .i64 d, .int .i64 a, .int .i64 b, .int .i64 n, .int .i64 s] 32) := by rw [b1.block _ (by omega), b0.block _ (by omega), hblk2]
 have hc0 : w3.cell? ⟨w.heap.size, 0, none⟩ = some (.int .u8 5) := by rw [cell_of_heap hblk]; rfl
 have hc1 : w3.cell? ⟨w.heap.size, 1, none⟩ = some (.int .u8 c) := by rw [cell_of_heap hblk]; rfl
 have hc2 : w3.cell? ⟨w.heap.size, 2, none⟩ = some (.int .i64 d) := by rw [cell_of_heap hblk]; rfl
 have hc3 : w3.cell? ⟨w.heap.size, 3, none⟩ = some (.int .i64 a) := by rw [cell_of_heap hblk]; rfl
 have hc4 : w3.cell? ⟨w.heap.size, 4, none⟩ = some (.int .i64 b) := by rw [cell_of_heap hblk]; rfl
 have hc5 : w3.cell? ⟨w.heap.size, 5, none⟩ = some (.int .i64 n) := by rw [cell_of_heap hblk]; rfl
 have hc6 : w3.cell? ⟨w.heap.size, 6, none⟩ = some (.int .i64 s) := by rw [cell_of_heap hblk]; rfl
 have hput2 := fun k hk => put_top _ [It.s [108, 111, 97, 100, 32, 36], It.i s] w3 (w.heap.size + 1) (w.heap.size + 1) k h1 hk hok2 (Nat.le_of_ble_eq_true rfl) (by
  have := itB_len hok
  rw [List.nil_append]
  exact Nat.le_trans this (Nat.le_of_ble_eq_true rfl)) hp4 (by omega) (by omega)
 go_wp2_with (go_at_call 22; go_loud (refine (hput2 _ rfl).mono ?_))
 rintro e w5 ⟨rfl, h5, b5⟩
 go_wp2_with (go_at_call 24; go_loud (refine (str_any _ _ _ _ h5 (by simp [itB, It.b])).mono ?_))
 rintro e w6 ⟨rfl, b6⟩
 go_wp2
 go_ret
 exact ⟨by simp [itB], ((hb3.trans (b1.mono (by omega))).trans (b5.mono (by omega))).trans (b6.mono (by omega))⟩
set_option maxHeartbeats 2000000 in
set_option maxRecDepth 100000 in
theorem instr_6 (c d a b n s : Int) (hd : Fit d) (ha : Fit a) (hb : Fit b) (hn : Fit n) (hs : Fit s) (w : World) (hp : Pow w) (hB : 1 < w.heap.size) :
 Calls Tryd.prog 9 #[.agg #[.int .u8 6, .int .u8 c, .int .i64 d, .int .i64 a, .int .i64 b, .int .i64 n, .int .i64 s]] w fun e w' => e = .returned (.string ⟨(itB ([It.s [115, 116, 111, 114, 101, 32, 36], It.i s, It.s [44, 32, 37], It.i a])).toArray⟩) ∧ Below w.heap.size w w' := by
 have hf := fresh_w (w.alloc (.cells #[.int .u8 6, .int .u8 c, .int .i64 d, .int .i64 a, .int .i64 b, .int .i64 n, .int .i64 s] 32))
 rw [al_size] at hf
 have hb1 : Below w.heap.size w (w.alloc (.cells #[.int .u8 6, .int .u8 c, .int .i64 d, .int .i64 a, .int .i64 b, .int .i64 n, .int .i64 s] 32)) := (Below.refl _ w).alloc (Nat.le_refl _) _
 have hb2 : Below w.heap.size w ((w.alloc (.cells #[.int .u8 6, .int .u8 c, .int .i64 d, .int .i64 a, .int .i64 b, .int .i64 n, .int .i64 s] 32)).alloc (.cells #[.pointer none, .slice none 0 0] 73)) := hb1.alloc (by simp only [al_size]; omega) _
 have hblk2 : ((w.alloc (.cells #[.int .u8 6, .int .u8 c, .int .i64 d, .int .i64 a, .int .i64 b, .int .i64 n, .int .i64 s] 32)).alloc (.cells #[.pointer none, .slice none 0 0] 73)).heap[w.heap.size]? = some (.cells #[.int .u8 6, .int .u8 c, .int .i64 d, .int .i64 a, .int .i64 b, .int .i64 n, .int .i64 s] 32) := by
  rw [alloc_old _ _ _ (by simp only [al_size]; omega), heap_alloc_new]
 have hs2 : ((w.alloc (.cells #[.int .u8 6, .int .u8 c, .int .i64 d, .int .i64 a, .int .i64 b, .int .i64 n, .int .i64 s] 32)).alloc (.cells #[.pointer none, .slice none 0 0] 73)).heap.size = w.heap.size + 1 + 1 := by simp only [al_size]
 have hok : ∀ x ∈ [It.s [37], It.i d, It.s [32, 61, 32]], x.ok := by
  intro x hx
  simp only [List.mem_cons, List.not_mem_nil, or_false] at hx
  rcases hx with rfl | rfl | rfl <;> first | exact hd | exact ha | exact hb | exact hn | exact hs | simp [It.ok]
 have hok2 : ∀ x ∈ [It.s [115, 116, 111, 114, 101, 32, 36], It.i s, It.s [44, 32, 37], It.i a], x.ok := by
  intro x hx
  simp only [List.mem_cons, List.not_mem_nil, or_false] at hx
  rcases hx with rfl | rfl | rfl | rfl <;> first | exact hd | exact ha | exact hb | exact hn | exact hs | simp [It.ok]
 go_enter Tryd.func9, Tryd.ntmps9
 go_wp2_with (go_at_call 21; go_loud (refine (sets_6 _ _ _ _ _ _ _).mono ?_))
 rintro e w1 ⟨rfl, b0⟩
 rw [hs2] at b0
 have hf1 := Bf_below hf (by rw [hs2]; exact b0)
 have hsz := b0.size
 rw [hs2] at hsz
 have hb3 := hb2.trans (b0.mono (by omega))
 have hp3 := hp.below hB hb3
 have hblk : w1.heap[w.heap.size]? = some (.cells #[.int .u8 6, .int .u8 c, .int .i64 d, .int .i64 a, .int .i64 b, .int .i64 n, .int .i64 s] 32) := by rw [b0.block _ (by omega), hblk2]
 have hc0 : w1.cell? ⟨w.heap.size, 0, none⟩ = some (.int .u8 6) := by rw [cell_of_heap hblk]; rfl
 have hc1 : w1.cell? ⟨w.heap.size, 1, none⟩ = some (.int .u8 c) := by rw [cell_of_heap hblk]; rfl
 have hc2 : w1.cell? ⟨w.heap.size, 2, none⟩ = some (.int .i64 d) := by rw [cell_of_heap hblk]; rfl
 have hc3 : w1.cell? ⟨w.heap.size, 3, none⟩ = some (.int .i64 a) := by rw [cell_of_heap hblk]; rfl
 have hc4 : w1.cell? ⟨w.heap.size, 4, none⟩ = some (.int .i64 b) := by rw [cell_of_heap hblk]; rfl
 have hc5 : w1.cell? ⟨w.heap.size, 5, none⟩ = some (.int .i64 n) := by rw [cell_of_heap hblk]; rfl
 have hc6 : w1.cell? ⟨w.heap.size, 6, none⟩ = some (.int .i64 s) := by rw [cell_of_heap hblk]; rfl
 have hput2 := fun k hk => put_top [] [It.s [115, 116, 111, 114, 101, 32, 36], It.i s, It.s [44, 32, 37], It.i a] w1 (w.heap.size + 1) (w.heap.size + 1) k hf1 hk hok2 (Nat.le_of_ble_eq_true rfl) (Nat.le_of_ble_eq_true rfl) hp3 (by omega) (by omega)
 go_wp2_with (go_at_call 22; go_loud (refine (hput2 _ rfl).mono ?_))
 rintro e w5 ⟨rfl, h5, b5⟩
 go_wp2_with (go_at_call 24; go_loud (refine (str_any _ _ _ _ h5 (by simp [itB, It.b])).mono ?_))
 rintro e w6 ⟨rfl, b6⟩
 go_wp2
 go_ret
 exact ⟨by simp [itB], (hb3.trans (b5.mono (by omega))).trans (b6.mono (by omega))⟩
set_option maxHeartbeats 2000000 in
set_option maxRecDepth 100000 in
theorem instr_7 (c d a b n s : Int) (hd : Fit d) (ha : Fit a) (hb : Fit b) (hn : Fit n) (hs : Fit s) (w : World) (hp : Pow w) (hB : 1 < w.heap.size) :
 Calls Tryd.prog 9 #[.agg #[.int .u8 7, .int .u8 c, .int .i64 d, .int .i64 a, .int .i64 b, .int .i64 n, .int .i64 s]] w fun e w' => e = .returned (.string ⟨(itB ([It.s [37], It.i d, It.s [32, 61, 32]] ++ [It.s [103, 101, 116, 32, 37], It.i a])).toArray⟩) ∧ Below w.heap.size w w' := by
 have hf := fresh_w (w.alloc (.cells #[.int .u8 7, .int .u8 c, .int .i64 d, .int .i64 a, .int .i64 b, .int .i64 n, .int .i64 s] 32))
 rw [al_size] at hf
 have hb1 : Below w.heap.size w (w.alloc (.cells #[.int .u8 7, .int .u8 c, .int .i64 d, .int .i64 a, .int .i64 b, .int .i64 n, .int .i64 s] 32)) := (Below.refl _ w).alloc (Nat.le_refl _) _
 have hb2 : Below w.heap.size w ((w.alloc (.cells #[.int .u8 7, .int .u8 c, .int .i64 d, .int .i64 a, .int .i64 b, .int .i64 n, .int .i64 s] 32)).alloc (.cells #[.pointer none, .slice none 0 0] 73)) := hb1.alloc (by simp only [al_size]; omega) _
 have hblk2 : ((w.alloc (.cells #[.int .u8 7, .int .u8 c, .int .i64 d, .int .i64 a, .int .i64 b, .int .i64 n, .int .i64 s] 32)).alloc (.cells #[.pointer none, .slice none 0 0] 73)).heap[w.heap.size]? = some (.cells #[.int .u8 7, .int .u8 c, .int .i64 d, .int .i64 a, .int .i64 b, .int .i64 n, .int .i64 s] 32) := by
  rw [alloc_old _ _ _ (by simp only [al_size]; omega), heap_alloc_new]
 have hs2 : ((w.alloc (.cells #[.int .u8 7, .int .u8 c, .int .i64 d, .int .i64 a, .int .i64 b, .int .i64 n, .int .i64 s] 32)).alloc (.cells #[.pointer none, .slice none 0 0] 73)).heap.size = w.heap.size + 1 + 1 := by simp only [al_size]
 have hok : ∀ x ∈ [It.s [37], It.i d, It.s [32, 61, 32]], x.ok := by
  intro x hx
  simp only [List.mem_cons, List.not_mem_nil, or_false] at hx
  rcases hx with rfl | rfl | rfl <;> first | exact hd | exact ha | exact hb | exact hn | exact hs | simp [It.ok]
 have hok2 : ∀ x ∈ [It.s [103, 101, 116, 32, 37], It.i a], x.ok := by
  intro x hx
  simp only [List.mem_cons, List.not_mem_nil, or_false] at hx
  rcases hx with rfl | rfl <;> first | exact hd | exact ha | exact hb | exact hn | exact hs | simp [It.ok]
 go_enter Tryd.func9, Tryd.ntmps9
 go_wp2_with (go_at_call 21; go_loud (refine (sets_7 _ _ _ _ _ _ _).mono ?_))
 rintro e w1 ⟨rfl, b0⟩
 rw [hs2] at b0
 have hf1 := Bf_below hf (by rw [hs2]; exact b0)
 have hsz := b0.size
 rw [hs2] at hsz
 have hb3 := hb2.trans (b0.mono (by omega))
 have hp3 := hp.below hB hb3
 have hput := fun k hk => put_top [] [It.s [37], It.i d, It.s [32, 61, 32]] w1 (w.heap.size + 1) (w.heap.size + 1) k hf1 hk hok (Nat.le_of_ble_eq_true rfl) (Nat.le_of_ble_eq_true rfl) hp3 (by omega) (by omega)
 go_wp2_with (go_at_call 22; go_loud (refine (hput _ rfl).mono ?_))
 rintro e w3 ⟨rfl, h1, b1⟩
 have hsz3 := b1.size
 have hp4 := hp3.below (by omega) b1
 have hblk : w3.heap[w.heap.size]? = some (.cells #[.int .u8 7, .int .u8 c, .int .i64 d, .int .i64 a, .int .i64 b, .int .i64 n, .int .i64 s] 32) := by rw [b1.block _ (by omega), b0.block _ (by omega), hblk2]
 have hc0 : w3.cell? ⟨w.heap.size, 0, none⟩ = some (.int .u8 7) := by rw [cell_of_heap hblk]; rfl
 have hc1 : w3.cell? ⟨w.heap.size, 1, none⟩ = some (.int .u8 c) := by rw [cell_of_heap hblk]; rfl
 have hc2 : w3.cell? ⟨w.heap.size, 2, none⟩ = some (.int .i64 d) := by rw [cell_of_heap hblk]; rfl
 have hc3 : w3.cell? ⟨w.heap.size, 3, none⟩ = some (.int .i64 a) := by rw [cell_of_heap hblk]; rfl
 have hc4 : w3.cell? ⟨w.heap.size, 4, none⟩ = some (.int .i64 b) := by rw [cell_of_heap hblk]; rfl
 have hc5 : w3.cell? ⟨w.heap.size, 5, none⟩ = some (.int .i64 n) := by rw [cell_of_heap hblk]; rfl
 have hc6 : w3.cell? ⟨w.heap.size, 6, none⟩ = some (.int .i64 s) := by rw [cell_of_heap hblk]; rfl
 have hput2 := fun k hk => put_top _ [It.s [103, 101, 116, 32, 37], It.i a] w3 (w.heap.size + 1) (w.heap.size + 1) k h1 hk hok2 (Nat.le_of_ble_eq_true rfl) (by
  have := itB_len hok
  rw [List.nil_append]
  exact Nat.le_trans this (Nat.le_of_ble_eq_true rfl)) hp4 (by omega) (by omega)
 go_wp2_with (go_at_call 22; go_loud (refine (hput2 _ rfl).mono ?_))
 rintro e w5 ⟨rfl, h5, b5⟩
 go_wp2_with (go_at_call 24; go_loud (refine (str_any _ _ _ _ h5 (by simp [itB, It.b])).mono ?_))
 rintro e w6 ⟨rfl, b6⟩
 go_wp2
 go_ret
 exact ⟨by simp [itB], ((hb3.trans (b1.mono (by omega))).trans (b5.mono (by omega))).trans (b6.mono (by omega))⟩
set_option maxHeartbeats 2000000 in
set_option maxRecDepth 100000 in
theorem instr_8 (c d a b n s : Int) (hd : Fit d) (ha : Fit a) (hb : Fit b) (hn : Fit n) (hs : Fit s) (w : World) (hp : Pow w) (hB : 1 < w.heap.size) :
 Calls Tryd.prog 9 #[.agg #[.int .u8 8, .int .u8 c, .int .i64 d, .int .i64 a, .int .i64 b, .int .i64 n, .int .i64 s]] w fun e w' => e = .returned (.string ⟨(itB ([It.s [112, 117, 116, 32, 37], It.i a, It.s [44, 32, 37], It.i b])).toArray⟩) ∧ Below w.heap.size w w' := by
 have hf := fresh_w (w.alloc (.cells #[.int .u8 8, .int .u8 c, .int .i64 d, .int .i64 a, .int .i64 b, .int .i64 n, .int .i64 s] 32))
 rw [al_size] at hf
 have hb1 : Below w.heap.size w (w.alloc (.cells #[.int .u8 8, .int .u8 c, .int .i64 d, .int .i64 a, .int .i64 b, .int .i64 n, .int .i64 s] 32)) := (Below.refl _ w).alloc (Nat.le_refl _) _
 have hb2 : Below w.heap.size w ((w.alloc (.cells #[.int .u8 8, .int .u8 c, .int .i64 d, .int .i64 a, .int .i64 b, .int .i64 n, .int .i64 s] 32)).alloc (.cells #[.pointer none, .slice none 0 0] 73)) := hb1.alloc (by simp only [al_size]; omega) _
 have hblk2 : ((w.alloc (.cells #[.int .u8 8, .int .u8 c, .int .i64 d, .int .i64 a, .int .i64 b, .int .i64 n, .int .i64 s] 32)).alloc (.cells #[.pointer none, .slice none 0 0] 73)).heap[w.heap.size]? = some (.cells #[.int .u8 8, .int .u8 c, .int .i64 d, .int .i64 a, .int .i64 b, .int .i64 n, .int .i64 s] 32) := by
  rw [alloc_old _ _ _ (by simp only [al_size]; omega), heap_alloc_new]
 have hs2 : ((w.alloc (.cells #[.int .u8 8, .int .u8 c, .int .i64 d, .int .i64 a, .int .i64 b, .int .i64 n, .int .i64 s] 32)).alloc (.cells #[.pointer none, .slice none 0 0] 73)).heap.size = w.heap.size + 1 + 1 := by simp only [al_size]
 have hok : ∀ x ∈ [It.s [37], It.i d, It.s [32, 61, 32]], x.ok := by
  intro x hx
  simp only [List.mem_cons, List.not_mem_nil, or_false] at hx
  rcases hx with rfl | rfl | rfl <;> first | exact hd | exact ha | exact hb | exact hn | exact hs | simp [It.ok]
 have hok2 : ∀ x ∈ [It.s [112, 117, 116, 32, 37], It.i a, It.s [44, 32, 37], It.i b], x.ok := by
  intro x hx
  simp only [List.mem_cons, List.not_mem_nil, or_false] at hx
  rcases hx with rfl | rfl | rfl | rfl <;> first | exact hd | exact ha | exact hb | exact hn | exact hs | simp [It.ok]
 go_enter Tryd.func9, Tryd.ntmps9
 go_wp2_with (go_at_call 21; go_loud (refine (sets_8 _ _ _ _ _ _ _).mono ?_))
 rintro e w1 ⟨rfl, b0⟩
 rw [hs2] at b0
 have hf1 := Bf_below hf (by rw [hs2]; exact b0)
 have hsz := b0.size
 rw [hs2] at hsz
 have hb3 := hb2.trans (b0.mono (by omega))
 have hp3 := hp.below hB hb3
 have hblk : w1.heap[w.heap.size]? = some (.cells #[.int .u8 8, .int .u8 c, .int .i64 d, .int .i64 a, .int .i64 b, .int .i64 n, .int .i64 s] 32) := by rw [b0.block _ (by omega), hblk2]
 have hc0 : w1.cell? ⟨w.heap.size, 0, none⟩ = some (.int .u8 8) := by rw [cell_of_heap hblk]; rfl
 have hc1 : w1.cell? ⟨w.heap.size, 1, none⟩ = some (.int .u8 c) := by rw [cell_of_heap hblk]; rfl
 have hc2 : w1.cell? ⟨w.heap.size, 2, none⟩ = some (.int .i64 d) := by rw [cell_of_heap hblk]; rfl
 have hc3 : w1.cell? ⟨w.heap.size, 3, none⟩ = some (.int .i64 a) := by rw [cell_of_heap hblk]; rfl
 have hc4 : w1.cell? ⟨w.heap.size, 4, none⟩ = some (.int .i64 b) := by rw [cell_of_heap hblk]; rfl
 have hc5 : w1.cell? ⟨w.heap.size, 5, none⟩ = some (.int .i64 n) := by rw [cell_of_heap hblk]; rfl
 have hc6 : w1.cell? ⟨w.heap.size, 6, none⟩ = some (.int .i64 s) := by rw [cell_of_heap hblk]; rfl
 have hput2 := fun k hk => put_top [] [It.s [112, 117, 116, 32, 37], It.i a, It.s [44, 32, 37], It.i b] w1 (w.heap.size + 1) (w.heap.size + 1) k hf1 hk hok2 (Nat.le_of_ble_eq_true rfl) (Nat.le_of_ble_eq_true rfl) hp3 (by omega) (by omega)
 go_wp2_with (go_at_call 22; go_loud (refine (hput2 _ rfl).mono ?_))
 rintro e w5 ⟨rfl, h5, b5⟩
 go_wp2_with (go_at_call 24; go_loud (refine (str_any _ _ _ _ h5 (by simp [itB, It.b])).mono ?_))
 rintro e w6 ⟨rfl, b6⟩
 go_wp2
 go_ret
 exact ⟨by simp [itB], (hb3.trans (b5.mono (by omega))).trans (b6.mono (by omega))⟩
end Go.Proofs
end
section
set_option linter.unusedVariables false
set_option linter.unusedSimpArgs false
set_option linter.unusedSectionVars false
set_option linter.unnecessarySimpa false
namespace Go.Proofs
open Go.RowKit Go.Lib
theorem name_it (c : Nat) (hc : c < 12) : (It.s (namesL.getD c [])).ok := by
 have : c = 0 ∨ c = 1 ∨ c = 2 ∨ c = 3 ∨ c = 4 ∨ c = 5 ∨ c = 6 ∨ c = 7 ∨ c = 8 ∨ c = 9 ∨ c = 10 ∨ c = 11 := by omega
 rcases this with rfl | rfl | rfl | rfl | rfl | rfl | rfl | rfl | rfl | rfl | rfl | rfl <;> simp [It.ok, namesL]
set_option maxHeartbeats 2000000 in
set_option maxRecDepth 100000 in
theorem instr_2 (c : Nat) (hc12 : c < 12) (d a b n s : Int) (hd : Fit d) (ha : Fit a) (hb : Fit b) (hn : Fit n) (hs : Fit s) (w : World) (hp : Pow w) (hN : Nam w) (hB : 1 < w.heap.size) :
 Calls Tryd.prog 9 #[.agg #[.int .u8 2, .int .u8 c, .int .i64 d, .int .i64 a, .int .i64 b, .int .i64 n, .int .i64 s]] w fun e w' => e = .returned (.string ⟨(itB ([It.s [37], It.i d, It.s [32, 61, 32]] ++ [It.s (namesL.getD c []), It.s [32, 37], It.i a, It.s [44, 32, 37], It.i b])).toArray⟩) ∧ Below w.heap.size w w' := by
 have hf := fresh_w (w.alloc (.cells #[.int .u8 2, .int .u8 c, .int .i64 d, .int .i64 a, .int .i64 b, .int .i64 n, .int .i64 s] 32))
 rw [al_size] at hf
 have hb1 : Below w.heap.size w (w.alloc (.cells #[.int .u8 2, .int .u8 c, .int .i64 d, .int .i64 a, .int .i64 b, .int .i64 n, .int .i64 s] 32)) := (Below.refl _ w).alloc (Nat.le_refl _) _
 have hb2 : Below w.heap.size w ((w.alloc (.cells #[.int .u8 2, .int .u8 c, .int .i64 d, .int .i64 a, .int .i64 b, .int .i64 n, .int .i64 s] 32)).alloc (.cells #[.pointer none, .slice none 0 0] 73)) := hb1.alloc (by simp only [al_size]; omega) _
 have hblk2 : ((w.alloc (.cells #[.int .u8 2, .int .u8 c, .int .i64 d, .int .i64 a, .int .i64 b, .int .i64 n, .int .i64 s] 32)).alloc (.cells #[.pointer none, .slice none 0 0] 73)).heap[w.heap.size]? = some (.cells #[.int .u8 2, .int .u8 c, .int .i64 d, .int .i64 a, .int .i64 b, .int .i64 n, .int .i64 s] 32) := by
  rw [alloc_old _ _ _ (by simp only [al_size]; omega), heap_alloc_new]
 have hs2 : ((w.alloc (.cells #[.int .u8 2, .int .u8 c, .int .i64 d, .int .i64 a, .int .i64 b, .int .i64 n, .int .i64 s] 32)).alloc (.cells #[.pointer none, .slice none 0 0] 73)).heap.size = w.heap.size + 1 + 1 := by simp only [al_size]
 have hok : ∀ x ∈ [It.s [37], It.i d, It.s [32, 61, 32]], x.ok := by
  intro x hx
  simp only [List.mem_cons, List.not_mem_nil, or_false] at hx
  rcases hx with rfl | rfl | rfl <;> first | exact name_it c hc12 | exact hd | exact ha | exact hb | exact hn | exact hs | simp [It.ok]
 have hok2 : ∀ x ∈ [It.s (namesL.getD c []), It.s [32, 37], It.i a, It.s [44, 32, 37], It.i b], x.ok := by
  intro x hx
  simp only [List.mem_cons, List.not_mem_nil, or_false] at hx
  rcases hx with rfl | rfl | rfl | rfl | rfl <;> first | exact name_it c hc12 | exact hd | exact ha | exact hb | exact hn | exact hs | simp [It.ok]
 go_enter Tryd.func9, Tryd.ntmps9
 go_wp2_with (go_at_call 21; go_loud (refine (sets_2 _ _ _ _ _ _ _).mono ?_))
 rintro e w1 ⟨rfl, b0⟩
 rw [hs2] at b0
 have hf1 := Bf_below hf (by rw [hs2]; exact b0)
 have hsz := b0.size
 rw [hs2] at hsz
 have hb3 := hb2.trans (b0.mono (by omega))
 have hp3 := hp.below hB hb3
 have hput := fun k hk => put_top [] [It.s [37], It.i d, It.s [32, 61, 32]] w1 (w.heap.size + 1) (w.heap.size + 1) k hf1 hk hok (Nat.le_of_ble_eq_true rfl) (Nat.le_of_ble_eq_true rfl) hp3 (by omega) (by omega)
 go_wp2_with (go_at_call 22; go_loud (refine (hput _ rfl).mono ?_))
 rintro e w3 ⟨rfl, h1, b1⟩
 have hsz3 := b1.size
 have hp4 := hp3.below (by omega) b1
 have hblk : w3.heap[w.heap.size]? = some (.cells #[.int .u8 2, .int .u8 c, .int .i64 d, .int .i64 a, .int .i64 b, .int .i64 n, .int .i64 s] 32) := by rw [b1.block _ (by omega), b0.block _ (by omega), hblk2]
 have hc0 : w3.cell? ⟨w.heap.size, 0, none⟩ = some (.int .u8 2) := by rw [cell_of_heap hblk]; rfl
 have hc1 : w3.cell? ⟨w.heap.size, 1, none⟩ = some (.int .u8 c) := by rw [cell_of_heap hblk]; rfl
 have hc2 : w3.cell? ⟨w.heap.size, 2, none⟩ = some (.int .i64 d) := by rw [cell_of_heap hblk]; rfl
 have hc3 : w3.cell? ⟨w.heap.size, 3, none⟩ = some (.int .i64 a) := by rw [cell_of_heap hblk]; rfl
 have hc4 : w3.cell? ⟨w.heap.size, 4, none⟩ = some (.int .i64 b) := by rw [cell_of_heap hblk]; rfl
 have hc5 : w3.cell? ⟨w.heap.size, 5, none⟩ = some (.int .i64 n) := by rw [cell_of_heap hblk]; rfl
 have hc6 : w3.cell? ⟨w.heap.size, 6, none⟩ = some (.int .i64 s) := by rw [cell_of_heap hblk]; rfl
 have hN3 : Nam w3 := (hN.below hB hb3).below (by omega) b1
 have hN4 : Nam w3.drew := hN3
 have hp5 : Pow w3.drew := hp4
 have hd0 : w3.drew.cell? ⟨w.heap.size, 0, none⟩ = _ := hc0
 have hd1 : w3.drew.cell? ⟨w.heap.size, 1, none⟩ = _ := hc1
 have hd2 : w3.drew.cell? ⟨w.heap.size, 2, none⟩ = _ := hc2
 have hd3 : w3.drew.cell? ⟨w.heap.size, 3, none⟩ = _ := hc3
 have hd4 : w3.drew.cell? ⟨w.heap.size, 4, none⟩ = _ := hc4
 have hd5 : w3.drew.cell? ⟨w.heap.size, 5, none⟩ = _ := hc5
 have hd6 : w3.drew.cell? ⟨w.heap.size, 6, none⟩ = _ := hc6
 have h1d : IsBuilderF 73 5 (w.heap.size + 1) (w.heap.size + 1) (byteCells ([] ++ itB [It.s [37], It.i d, It.s [32, 61, 32]])) w3.drew := h1.imp (fun h => h.drew) fun h => h.drew
 have hput2 := fun k hk => put_top _ [It.s (namesL.getD c []), It.s [32, 37], It.i a, It.s [44, 32, 37], It.i b] w3.drew (w.heap.size + 1) (w.heap.size + 1) k h1d hk hok2 (Nat.le_of_ble_eq_true rfl) (by
  have := itB_len hok
  rw [List.nil_append]
  exact Nat.le_trans this (Nat.le_of_ble_eq_true rfl)) hp5 (by omega) (by show _ ≤ w3.heap.size; omega)
 have b1 : Below (w.heap.size + 1) w1 w3.drew := b1.drew
 go_wp2
 go_region_with (first | (go_at_call 23; refine (name_any c hc12 _ hN4).mono ?_; rintro e w4 ⟨rfl, rfl⟩) | (go_at_call 22; go_loud (refine (hput2 _ rfl).mono ?_; rintro e w5 ⟨rfl, h5, b5⟩)))
 all_goals
  go_wp2_with (go_at_call 24; go_loud (refine (str_any _ _ _ _ h5 (by simp [itB, It.b])).mono ?_))
  rintro e w6 ⟨rfl, b6⟩
  go_wp2
  go_ret
  exact ⟨by simp [itB], ((hb3.trans (b1.mono (by omega))).trans (b5.mono (by omega))).trans (b6.mono (by omega))⟩
end Go.Proofs
end
section
set_option linter.unusedVariables false
set_option linter.unusedSimpArgs false
set_option linter.unusedSectionVars false
set_option linter.unnecessarySimpa false
namespace Go.Proofs
open Go.RowKit Go.Lib
def Row (w : World) (B s : Nat) (v : Value) (css : List (List Value)) : Prop :=
 (css = [] ∧ ∃ a c, v = .slice a 0 c) ∨ ∃ k o c, k < B ∧ v = .slice (some ⟨k, o, none⟩) css.length c ∧ ∀ (j : Nat) cs, css[j]? = some cs → ∀ (i : Nat) x, cs[i]? = some x → w.cell? ⟨k, o + j * s + i, none⟩ = some x
theorem Row.below {w w' : World} {B s : Nat} {v : Value} {css : List (List Value)} (h : Row w B s v css) (k : Below B w w') : Row w' B s v css := by
 rcases h with h | ⟨b, o, c, h1, h2, h3⟩
 ·exact .inl h
 ·exact .inr ⟨b, o, c, h1, h2, fun j cs hj i x hx => by rw [k.cell (p := ⟨b, o + j * s + i, none⟩) h1]; exact h3 j cs hj i x hx⟩
def In.cs (x : In) : List Value := [.int .u8 x.k, .int .u8 x.c, .int .i64 x.d, .int .i64 x.a, .int .i64 x.b, .int .i64 x.n, .int .i64 x.s]
theorem instr_any (x : In) (h : x.Ok) (w : World) (hp : Pow w) (hN : Nam w) (hB : 1 < w.heap.size) :
 Calls Tryd.prog 9 #[.agg #[.int .u8 x.k, .int .u8 x.c, .int .i64 x.d, .int .i64 x.a, .int .i64 x.b, .int .i64 x.n, .int .i64 x.s]] w fun e w' => e = .returned (.string ⟨x.txt.toArray⟩) ∧ Below w.heap.size w w' := by
 obtain ⟨k, c, d, a, b, n, s⟩ := x
 obtain ⟨h1, h2, h3, h4, h5, h6, h7⟩ := h
 simp only at h1 h2 h3 h4 h5 h6 h7 ⊢
 have : k = 0 ∨ k = 1 ∨ k = 2 ∨ k = 3 ∨ k = 4 ∨ k = 5 ∨ k = 6 ∨ k = 7 ∨ k = 8 := by omega
 rcases this with rfl | rfl | rfl | rfl | rfl | rfl | rfl | rfl | rfl
 ·exact instr_0 c d a b n s h3 h4 h5 h6 h7 w hp hB
 ·exact instr_1 c d a b n s h3 h4 h5 h6 h7 w hp hB
 ·obtain ⟨m, rfl⟩ : ∃ m : Nat, c = m := ⟨c.toNat, by omega⟩
  exact instr_2 m (by omega) d a b n s h3 h4 h5 h6 h7 w hp hN hB
 ·exact instr_3 c d a b n s h3 h4 h5 h6 h7 w hp hB
 ·exact instr_4 c d a b n s h3 h4 h5 h6 h7 w hp hB
 ·exact instr_5 c d a b n s h3 h4 h5 h6 h7 w hp hB
 ·exact instr_6 c d a b n s h3 h4 h5 h6 h7 w hp hB
 ·exact instr_7 c d a b n s h3 h4 h5 h6 h7 w hp hB
 ·exact instr_8 c d a b n s h3 h4 h5 h6 h7 w hp hB
end Go.Proofs
end
section
set_option linter.unusedVariables false
set_option linter.unusedSimpArgs false
set_option linter.unusedSectionVars false
set_option linter.unnecessarySimpa false
namespace Go.Proofs
open Go.RowKit Go.Lib
def BlC (w : World) (B : Nat) (cs : List Value) (b : Bl) : Prop := ∃ pa pc vi, cs = [.int .i64 b.label, .slice pa 0 pc, vi, .int .u8 b.last.k, .int .i64 b.last.a, .int .i64 b.last.y, .int .i64 b.last.n] ∧ Row w B 7 vi (b.ins.map In.cs)
def RdP (w : World) (B : Nat) (v : Value) (bs : List Bl) : Prop := ∃ css, Row w B 7 v css ∧ css.length = bs.length ∧ ∀ (j : Nat) cs b, css[j]? = some cs → bs[j]? = some b → BlC w B cs b
theorem put_top2 (acc : List UInt8) (its : List It) (w : World) (B b k : Nat) (hI : IsBuilderF 73 5 B b (byteCells acc) w) (hk : k = w.heap.size)
 (hok : ∀ x ∈ its, x.ok) (hlen : its.length ≤ 1000) (hacc : acc.length ≤ 1000000000) (hp : Pow w) (hB : 1 < B) (hBw : B ≤ w.heap.size) :
 Calls Tryd.prog 22 #[.pointer (some ⟨b, 0, none⟩), .slice (some ⟨k, 0, none⟩) its.length its.length] (w.alloc (.cells (its.map It.v).toArray 20)) fun e w' => e = .returned (.tuple #[]) ∧ IsBuilderF 73 5 B b (byteCells (acc ++ itB its)) w' ∧ Below B w w' ∧ OthersKept 5 (some b) w w' := by
 subst hk
 have hb : b < w.heap.size := hI.elim (fun h => h.lt) fun h => h.lt
 have hs : (w.alloc (.cells (its.map It.v).toArray 20)).heap.size = w.heap.size + 1 := al_size _ _
 have hb0 : Below B w (w.alloc (.cells (its.map It.v).toArray 20)) := (Below.refl B w).alloc hBw _
 refine (put_any acc its _ B b w.heap.size (hI.alloc _) (heap_alloc_new w _) (by omega) hok hlen hacc (hp.below hB hb0) hB (by omega)).mono ?_
 rintro e w' ⟨rfl, h1, h2, h3⟩
 exact ⟨rfl, h1, hb0.trans h2, ((OthersKept.refl _ _ w).alloc _).trans h3⟩
theorem ilen {n : Int} (h : Fit n) : (itoa n).length ≤ 21 := (Go.AM.Lx.Reads.num h.1 h.2).len
theorem nlen (c : Nat) : (namesL.getD c []).length ≤ 3 := by
 by_cases h : c < 12
 ·have : c = 0 ∨ c = 1 ∨ c = 2 ∨ c = 3 ∨ c = 4 ∨ c = 5 ∨ c = 6 ∨ c = 7 ∨ c = 8 ∨ c = 9 ∨ c = 10 ∨ c = 11 := by omega
  rcases this with rfl | rfl | rfl | rfl | rfl | rfl | rfl | rfl | rfl | rfl | rfl | rfl <;> decide
 ·have : namesL.getD c [] = [] := by
   unfold List.getD
   rw [List.getElem?_eq_none (by show 12 ≤ c; omega)]
   rfl
  rw [this]
  exact Nat.zero_le _
theorem In.txt_len {x : In} (h : x.Ok) : x.txt.length ≤ 1000 := by
 have h1 := ilen h.d
 have h2 := ilen h.a
 have h3 := ilen h.b
 have h4 := ilen h.n
 have h5 := ilen h.s
 have h6 := nlen x.c.toNat
 unfold In.txt In.its setIt
 (repeat' split) <;> simp only [itB, It.b, List.flatMap_cons, List.flatMap_nil, List.append_nil, List.cons_append, List.nil_append, List.length_append, List.length_cons, List.length_nil] <;> omega
theorem La.txt_len {l : La} (h4 : Fit l.a) (h5 : Fit l.y) (h6 : Fit l.n) : l.txt.length ≤ 1000 := by
 have h1 := ilen h4
 have h2 := ilen h5
 have h3 := ilen h6
 unfold La.txt lastIt
 (repeat' split) <;> simp only [itB, It.b, List.flatMap_cons, List.flatMap_nil, List.append_nil, List.cons_append, List.nil_append, List.length_append, List.length_cons, List.length_nil] <;> omega
set_option maxHeartbeats 4000000 in
set_option maxRecDepth 100000 in
theorem program_any (bs : List Bl) (v : Value) (w : World) (hP : RdP w w.heap.size v bs) (hne : bs ≠ []) (hbs : bs.length ≤ 1000000) (hok : ∀ b ∈ bs, Fit b.label ∧ (∀ x ∈ b.ins, x.Ok) ∧ (0 ≤ b.last.k ∧ b.last.k < 4) ∧ Fit b.last.a ∧ Fit b.last.y ∧ Fit b.last.n ∧ b.ins.length ≤ 1000000) (hbig : (progT bs).length ≤ 1000000000) (hp : Pow w) (hN : Nam w) (hB : 1 < w.heap.size) :
 Calls Tryd.prog 13 #[.agg #[v]] w fun e w' => e = .returned (.string ⟨(progT bs).toArray⟩) ∧ Below w.heap.size w w' := by
 obtain ⟨css, hrow, hlen, hbl⟩ := hP
 rcases hrow with ⟨h0, _⟩ | ⟨k, o, c, hk, rfl, hcells⟩
 ·subst h0
  exact absurd (List.length_eq_zero_iff.1 hlen.symm) hne
 have hf := fresh_w (w.alloc (.cells #[.slice (some ⟨k, o, none⟩) css.length c] 46))
 rw [al_size] at hf
 have hb1 : Below w.heap.size w (w.alloc (.cells #[.slice (some ⟨k, o, none⟩) css.length c] 46)) := (Below.refl _ w).alloc (Nat.le_refl _) _
 have hb2 : Below w.heap.size w ((w.alloc (.cells #[.slice (some ⟨k, o, none⟩) css.length c] 46)).alloc (.cells #[.pointer none, .slice none 0 0] 73)) := hb1.alloc (by simp only [al_size]; omega) _
 have hs2 : ((w.alloc (.cells #[.slice (some ⟨k, o, none⟩) css.length c] 46)).alloc (.cells #[.pointer none, .slice none 0 0] 73)).heap.size = w.heap.size + 2 := by simp only [al_size]
 rw [hlen] at hf hb1 hb2 hs2 ⊢
 go_enter Tryd.func13, Tryd.ntmps13
 go_wp2
 generalize ((w.alloc (.cells #[.slice (some ⟨k, o, none⟩) bs.length c] 46)).alloc (.cells #[.pointer none, .slice none 0 0] 73)) = w2 at *
 go_loopw [15] (fun i wr => ∃ j : Nat, j ≤ bs.length ∧ i = .int .i64 j ∧ IsBuilderF 73 5 (w.heap.size + 1) (w.heap.size + 1) (byteCells (progT (bs.take j))) wr ∧ Below (w.heap.size + 1) w2 wr) (fun i wr => bs.length - (RowKit.intOf i).toNat)
 case atStart => exact ⟨0, Nat.zero_le _, rfl, by simpa [progT] using hf, Below.refl _ _⟩
 case round =>
  obtain ⟨j, hj, rfl, hI, hb⟩ := hrel
  by_cases hlt : j < bs.length
  ·have hbj : bs[j]? = some bs[j] := List.getElem?_eq_getElem hlt
   have hcj : css[j]? = some css[j] := List.getElem?_eq_getElem (by omega)
   obtain ⟨pa, pc, vi, hcs, hri⟩ := hbl j _ _ hcj hbj
   have hall : Below w.heap.size w wr := hb2.trans (hb.mono (by omega))
   have hcell : ∀ (i : Nat) x, css[j][i]? = some x → wr.cell? ⟨k, o + j * 7 + i, none⟩ = some x := fun i x hx => by
    rw [hall.cell (p := ⟨k, o + j * 7 + i, none⟩) hk]; exact hcells j _ hcj i x hx
   rw [hcs] at hcell
   have hc0 := hcell 0 _ rfl
   have hc1 := hcell 1 _ rfl
   have hc2 := hcell 2 _ rfl
   have hc3 := hcell 3 _ rfl
   have hc4 := hcell 4 _ rfl
   have hc5 := hcell 5 _ rfl
   have hc6 := hcell 6 _ rfl
   rw [Nat.add_zero] at hc0
   clear hcell hcells hbl hcs hcj
   generalize bs[j] = b at *
   obtain ⟨va, vc, rfl⟩ : ∃ a c, vi = .slice a b.ins.length c := by
    rcases hri with ⟨h0, a, c, rfl⟩ | ⟨k', o', c', _, rfl, _⟩
    ·have : b.ins = [] := List.map_eq_nil_iff.1 h0
     exact ⟨a, c, by rw [this]; rfl⟩
    ·exact ⟨_, c', by rw [List.length_map]⟩
   obtain ⟨g1, g2, g3, g4, g5, g6, g7⟩ := hok b (List.mem_of_getElem? hbj)
   have hpre : (progT (bs.take j)).length ≤ 1000000000 := by
    refine Nat.le_trans ?_ hbig
    conv => rhs; rw [← List.take_append_drop j bs]
    unfold progT
    rw [List.flatMap_append, List.length_append]
    exact Nat.le_add_right _ _
   have hsnb : progT (bs.take (j + 1)) = progT (bs.take j) ++ b.txt := by
    rw [List.take_add_one, hbj]
    simp only [progT, Option.toList_some, List.flatMap_append, List.flatMap_cons, List.flatMap_nil, List.append_nil]
   have hpre1 : (progT (bs.take j)).length + b.txt.length ≤ 1000000000 := by
    have h1 : (progT (bs.take (j + 1))).length ≤ (progT bs).length := by
     conv => rhs; rw [← List.take_append_drop (j + 1) bs]
     unfold progT
     rw [List.flatMap_append, List.length_append]
     exact Nat.le_add_right _ _
    rw [hsnb, List.length_append] at h1
    omega
   have hins : ∀ m, (itB [It.s [64], .i b.label, .s [58, 10]]).length + (insT (b.ins.take m)).length ≤ b.txt.length := fun m => by
    have h1 : (insT (b.ins.take m)).length ≤ (insT b.ins).length := by
     conv => rhs; rw [← List.take_append_drop m b.ins]
     unfold insT
     rw [List.flatMap_append, List.length_append]
     exact Nat.le_add_right _ _
    have h2 : b.txt = itB [.s [64], .i b.label, .s [58, 10]] ++ insT b.ins ++ itB [.s [32, 32], .s b.last.txt, .s [10]] := rfl
    rw [h2, List.length_append, List.length_append]
    omega
   have hsz := hb.size
   have hW := hI.alloc (.cells #[.int .i64 b.label, .slice pa 0 pc, .slice va b.ins.length vc, .int .u8 b.last.k, .int .i64 b.last.a, .int .i64 b.last.y, .int .i64 b.last.n] 63)
   have hWs := al_size wr (.cells #[.int .i64 b.label, .slice pa 0 pc, .slice va b.ins.length vc, .int .u8 b.last.k, .int .i64 b.last.a, .int .i64 b.last.y, .int .i64 b.last.n] 63)
   have hWb : Below (w.heap.size + 1) wr (wr.alloc (.cells #[.int .i64 b.label, .slice pa 0 pc, .slice va b.ins.length vc, .int .u8 b.last.k, .int .i64 b.last.a, .int .i64 b.last.y, .int .i64 b.last.n] 63)) := (Below.refl _ wr).alloc (by omega) _
   have hWn := heap_alloc_new wr (.cells #[.int .i64 b.label, .slice pa 0 pc, .slice va b.ins.length vc, .int .u8 b.last.k, .int .i64 b.last.a, .int .i64 b.last.y, .int .i64 b.last.n] 63)
   have hpW := (hp.below hB hall).below (by omega) hWb
   have hput1 := fun q hq => put_top2 _ [.s [64], .i b.label, .s [58, 10]] _ _ _ q hW hq (by
    intro x hx
    simp only [List.mem_cons, List.not_mem_nil, or_false] at hx
    rcases hx with rfl | rfl | rfl <;> first | exact g1 | simp [It.ok]) (Nat.le_of_ble_eq_true rfl) hpre hpW (by omega) (by omega)
   go_wp2_with (go_at_call 22; go_loud (refine (hput1 _ hWs.symm).mono ?_))
   rintro e w4 ⟨rfl, h4, b4, k4⟩
   have hblk4 := k4 _ _ hWn (by simp; omega) (by intro c fz e; cases e)
   have d0 : w4.cell? ⟨wr.heap.size, 0, none⟩ = some (.int .i64 b.label) := by rw [cell_of_heap hblk4]; rfl
   have d1 : w4.cell? ⟨wr.heap.size, 1, none⟩ = some (.slice pa 0 pc) := by rw [cell_of_heap hblk4]; rfl
   have d2 : w4.cell? ⟨wr.heap.size, 2, none⟩ = some (.slice va b.ins.length vc) := by rw [cell_of_heap hblk4]; rfl
   have d3 : w4.cell? ⟨wr.heap.size, 3, none⟩ = some (.int .u8 b.last.k) := by rw [cell_of_heap hblk4]; rfl
   have d4 : w4.cell? ⟨wr.heap.size, 4, none⟩ = some (.int .i64 b.last.a) := by rw [cell_of_heap hblk4]; rfl
   have d5 : w4.cell? ⟨wr.heap.size, 5, none⟩ = some (.int .i64 b.last.y) := by rw [cell_of_heap hblk4]; rfl
   have d6 : w4.cell? ⟨wr.heap.size, 6, none⟩ = some (.int .i64 b.last.n) := by rw [cell_of_heap hblk4]; rfl
   have hs4 := b4.size
   have hkb : w.heap.size + 2 ≤ wr.heap.size := by omega
   have hb4 : Below (w.heap.size + 1) wr w4 := hWb.trans b4
   have hall4 : Below w.heap.size w w4 := hall.trans (hb4.mono (by omega))
   have hs44 : wr.heap.size + 1 ≤ w4.heap.size := by omega
   clear hW hWb hWn hpW hput1 hc0 hc1 hc2 hc3 hc4 hc5 hc6 k4 b4 hs4 hWs
   generalize hkk : wr.heap.size = kb at *
   go_wp2
   go_loopw [30] (fun i w' => i = .int .i64 0 ∧ w4 = w') (fun i w' => 0)
   case atStart => exact ⟨rfl, rfl⟩
   case round =>
    obtain ⟨rfl, rfl⟩ := hrel
    go_wp2
    go_loopw [46] (fun i w' => ∃ m : Nat, m ≤ b.ins.length ∧ i = .int .i64 m ∧ IsBuilderF 73 5 (w.heap.size + 1) (w.heap.size + 1) (byteCells (progT (bs.take j) ++ itB [.s [64], .i b.label, .s [58, 10]] ++ insT (b.ins.take m))) w' ∧ Below (w.heap.size + 1) w4 w' ∧ w'.heap[kb]? = w4.heap[kb]?) (fun i w' => b.ins.length - (RowKit.intOf i).toNat)
    case atStart => exact ⟨0, Nat.zero_le _, rfl, by simpa [insT] using h4, Below.refl _ _, rfl⟩
    case round =>
     obtain ⟨m, hm, rfl, hI5, hb5, hk5⟩ := hrel
     by_cases hlm : m < b.ins.length
     ·rcases hri with ⟨h0, _⟩ | ⟨k2, o2, c2, hk2, hv2, hcells2⟩
      ·have : b.ins = [] := List.map_eq_nil_iff.1 h0
       rw [this] at hlm
       exact absurd hlm (Nat.not_lt_zero _)
      rw [List.length_map] at hv2
      cases hv2
      have hxm : b.ins[m]? = some b.ins[m] := List.getElem?_eq_getElem hlm
      have hcm : (b.ins.map In.cs)[m]? = some b.ins[m].cs := by rw [List.getElem?_map, hxm]; rfl
      have hxok := g2 _ (List.getElem_mem hlm)
      have hall5 : Below w.heap.size w wr := hall4.trans (hb5.mono (by omega))
      have hcell2 : ∀ (i : Nat) y, b.ins[m].cs[i]? = some y → wr.cell? ⟨k2, o2 + m * 7 + i, none⟩ = some y := fun i y hy => by
       rw [hall5.cell (p := ⟨k2, o2 + m * 7 + i, none⟩) hk2]; exact hcells2 m _ hcm i y hy
      have hsn : insT (b.ins.take (m + 1)) = insT (b.ins.take m) ++ itB [.s [32, 32], .s b.ins[m].txt, .s [10]] := by
       rw [List.take_add_one, hxm]
       simp only [insT, Option.toList_some, List.flatMap_append, List.flatMap_cons, List.flatMap_nil, List.append_nil]
      generalize b.ins[m] = x at *
      have q0 := hcell2 0 (.int .u8 x.k) rfl
      have q1 := hcell2 1 (.int .u8 x.c) rfl
      have q2 := hcell2 2 (.int .i64 x.d) rfl
      have q3 := hcell2 3 (.int .i64 x.a) rfl
      have q4 := hcell2 4 (.int .i64 x.b) rfl
      have q5 := hcell2 5 (.int .i64 x.n) rfl
      have q6 := hcell2 6 (.int .i64 x.s) rfl
      rw [Nat.add_zero] at q0
      clear hcell2
      have hsz5 := hb5.size
      have hWs := al_size wr (.cells #[.int .u8 x.k, .int .u8 x.c, .int .i64 x.d, .int .i64 x.a, .int .i64 x.b, .int .i64 x.n, .int .i64 x.s] 32)
      have hWb : Below (w.heap.size + 1) wr (wr.alloc (.cells #[.int .u8 x.k, .int .u8 x.c, .int .i64 x.d, .int .i64 x.a, .int .i64 x.b, .int .i64 x.n, .int .i64 x.s] 32)) := (Below.refl _ wr).alloc (by omega) _
      have hpW := (hp.below hB hall5).below (by omega) hWb
      have hNW := (hN.below hB hall5).below (by omega) hWb
      have hIW := hI5.alloc (.cells #[.int .u8 x.k, .int .u8 x.c, .int .i64 x.d, .int .i64 x.a, .int .i64 x.b, .int .i64 x.n, .int .i64 x.s] 32)
      have hkW : (wr.alloc (.cells #[.int .u8 x.k, .int .u8 x.c, .int .i64 x.d, .int .i64 x.a, .int .i64 x.b, .int .i64 x.n, .int .i64 x.s] 32)).heap[kb]? = w4.heap[kb]? := by
       rw [alloc_old _ _ _ (by omega)]; exact hk5
      go_wp2_with (go_at_call 9; go_loud (refine (instr_any x hxok _ hpW hNW (by rw [hWs]; omega)).mono ?_))
      rintro e w6 ⟨rfl, b6⟩
      have hsz6 := b6.size
      have hI6 := Bf_below hIW b6
      have hb6 : Below (w.heap.size + 1) wr w6 := hWb.trans (b6.mono (by rw [hWs]; omega))
      have hk6 : w6.heap[kb]? = w4.heap[kb]? := by rw [b6.block kb (by rw [hWs]; omega)]; exact hkW
      have hp6 := hpW.below (B := w.heap.size + 1) (by omega) (b6.mono (by rw [hWs]; omega))
      rw [hWs] at hsz6
      have hput2 := fun q hq => put_top2 _ [.s [32, 32], .s x.txt, .s [10]] w6 _ _ q hI6 hq (by
       intro y hy
       simp only [List.mem_cons, List.not_mem_nil, or_false] at hy
       have := In.txt_len hxok
       rcases hy with rfl | rfl | rfl <;> first | exact this | simp [It.ok]) (Nat.le_of_ble_eq_true rfl) (by
       have := hins m
       rw [List.length_append, List.length_append]
       omega) hp6 (by omega) (by omega)
      go_wp2_with (go_at_call 22; go_loud (refine (hput2 _ rfl).mono ?_))
      rintro e w7 ⟨rfl, h7, b7, k7⟩
      have hk7 : w7.heap[kb]? = w4.heap[kb]? := by
       rw [hblk4] at hk6
       rw [k7 kb _ hk6 (by simp; omega) (by intro c fz e; cases e), hblk4]
      go_wp2
      go_roundw
      case rel => exact ⟨m + 1, by omega, by go_num, by rw [hsn, ← List.append_assoc]; exact h7, hb5.trans (hb6.trans b7), hk7⟩
      case measure => simp [RowKit.intOf]; omega
     ·have hml : m = b.ins.length := by omega
      subst hml
      rw [List.take_length] at hI5
      have hall5 : Below w.heap.size w wr := hall4.trans (hb5.mono (by omega))
      rw [hblk4] at hk5
      have d3 : wr.cell? ⟨kb, 3, none⟩ = some (.int .u8 b.last.k) := by rw [cell_of_heap hk5]; rfl
      have d4 : wr.cell? ⟨kb, 4, none⟩ = some (.int .i64 b.last.a) := by rw [cell_of_heap hk5]; rfl
      have d5 : wr.cell? ⟨kb, 5, none⟩ = some (.int .i64 b.last.y) := by rw [cell_of_heap hk5]; rfl
      have d6 : wr.cell? ⟨kb, 6, none⟩ = some (.int .i64 b.last.n) := by rw [cell_of_heap hk5]; rfl
      have hsz5 := hb5.size
      have hpW := hp.below hB hall5
      go_wp2_with (go_at_call 10; go_loud (refine (last_any b.last.k b.last.a b.last.y b.last.n g3 g4 g5 g6 _ hpW (by omega)).mono ?_))
      rintro e w6 ⟨rfl, b6⟩
      have hsz6 := b6.size
      have hI6 := Bf_below hI5 b6
      have hb6 : Below (w.heap.size + 1) wr w6 := b6.mono (by omega)
      have hp6 := hpW.below (B := w.heap.size + 1) (by omega) hb6
      have hput2 := fun q hq => put_top2 _ [.s [32, 32], .s b.last.txt, .s [10]] w6 _ _ q hI6 hq (by
       intro y hy
       simp only [List.mem_cons, List.not_mem_nil, or_false] at hy
       have := La.txt_len (l := b.last) g4 g5 g6
       rcases hy with rfl | rfl | rfl <;> first | exact this | simp [It.ok]) (Nat.le_of_ble_eq_true rfl) (by
       have := hins b.ins.length
       rw [List.take_length] at this
       rw [List.length_append, List.length_append]
       omega) hp6 (by omega) (by omega)
      go_wp2_with (go_at_call 22; go_loud (refine (hput2 _ rfl).mono ?_))
      rintro e w7 ⟨rfl, h7, b7, k7⟩
      go_wp2
      go_roundw
      case rel =>
       refine ⟨j + 1, by omega, by go_num, ?_, ((hb.trans hb4).trans hb5).trans (hb6.trans b7)⟩
       have h2 : b.txt = itB [.s [64], .i b.label, .s [58, 10]] ++ insT b.ins ++ itB [.s [32, 32], .s b.last.txt, .s [10]] := rfl
       rw [hsnb, h2]
       simpa only [List.append_assoc] using h7
      case measure => simp [RowKit.intOf]; omega
  ·have hjn : j = bs.length := by omega
   subst hjn
   rw [List.take_length] at hI
   have h0 : progT bs ≠ [] := by
    obtain ⟨b, l, rfl⟩ : ∃ b l, bs = b :: l := by
     cases bs with
     | nil => exact absurd rfl hne
     | cons b l => exact ⟨b, l, rfl⟩
    simp [progT, Bl.txt, itB, It.b]
   go_wp2_with (go_at_call 24; go_loud (refine (str_any _ _ _ _ hI h0).mono ?_))
   rintro e w8 ⟨rfl, b8⟩
   go_wp2
   go_ret
   exact ⟨rfl, (hb2.trans (hb.mono (by omega))).trans (b8.mono (by omega))⟩
end Go.Proofs
end
