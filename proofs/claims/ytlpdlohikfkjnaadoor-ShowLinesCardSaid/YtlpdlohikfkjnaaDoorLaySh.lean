/-
 The contracts of strings.Builder and strconv.Itoa at this program, laid in plain words.
-/
import Derived.Test.YtlpdlohikfkjnaaDoorProg
import Derived.Test.YtlpdlohikfkjnaaDoorBu
import Derived.Test.YtlpdlohikfkjnaaDoorLay
set_option maxRecDepth 100000
namespace Go.Proofs
open Go.Shelf
def Tryd.bu : Go.Shelf.Ren := ⟨fun | 166 => 39 | 169 => 24 | 240 => 54 | 276 => 65 | n => n, fun | 0 => 0 | 2 => 2 | 3 => 3 | 4 => 4 | 5 => 5 | 9 => 9 | 20 => 20 | 37 => 54 | 70 => 69 | 72 => 71 | 75 => 101 | 80 => 77 | 164 => 128 | 127 => 107 | n => n, fun n => n⟩
theorem Tryd.laysWS : Lays.n166 Tryd.prog Tryd.bu := {
 mixed := by kernel_rfl
 f166 := Tryd.func39.trans (congrArg some (by kernel_rfl))
 f240 := Tryd.func54.trans (congrArg some (by kernel_rfl))
 f276 := Tryd.func65.trans (congrArg some (by kernel_rfl))
 t0 := Tryd.underlying0
 a0 := Tryd.isAgg0
 z0 := Tryd.sizeOf0
 v0 := Tryd.zeroValue0
 t3 := Tryd.underlying3
 a3 := Tryd.isAgg3
 z3 := Tryd.sizeOf3
 v3 := Tryd.zeroValue3
 t4 := Tryd.underlying4
 a4 := Tryd.isAgg4
 z4 := Tryd.sizeOf4
 v4 := Tryd.zeroValue4
 t9 := Tryd.underlying9
 a9 := Tryd.isAgg9
 z9 := Tryd.sizeOf9
 v9 := Tryd.zeroValue9
 t20 := Tryd.underlying20
 a20 := Tryd.isAgg20
 z20 := Tryd.sizeOf20
 v20 := Tryd.zeroValue20
 t37 := Tryd.underlying54
 a37 := Tryd.isAgg54
 z37 := Tryd.sizeOf54
 v37 := Tryd.zeroValue54
 t70 := Tryd.underlying69
 a70 := Tryd.isAgg69
 z70 := Tryd.sizeOf69
 v70 := Tryd.zeroValue69
 t72 := Tryd.underlying71
 a72 := Tryd.isAgg71
 z72 := Tryd.sizeOf71
 v72 := Tryd.zeroValue71
 t75 := Tryd.underlying101
 a75 := Tryd.isAgg101
 z75 := Tryd.sizeOf101
 v75 := Tryd.zeroValue101
 t164 := Tryd.underlying128
 a164 := Tryd.isAgg128
 z164 := Tryd.sizeOf128
 v164 := Tryd.zeroValue128 }
theorem Tryd.laysBS : Lays.n169 Tryd.prog Tryd.bu := {
 mixed := by kernel_rfl
 f169 := Tryd.func24.trans (congrArg some (by kernel_rfl))
 t0 := Tryd.underlying0
 a0 := Tryd.isAgg0
 z0 := Tryd.sizeOf0
 v0 := Tryd.zeroValue0
 t3 := Tryd.underlying3
 a3 := Tryd.isAgg3
 z3 := Tryd.sizeOf3
 v3 := Tryd.zeroValue3
 t9 := Tryd.underlying9
 a9 := Tryd.isAgg9
 z9 := Tryd.sizeOf9
 v9 := Tryd.zeroValue9
 t37 := Tryd.underlying54
 a37 := Tryd.isAgg54
 z37 := Tryd.sizeOf54
 v37 := Tryd.zeroValue54
 t70 := Tryd.underlying69
 a70 := Tryd.isAgg69
 z70 := Tryd.sizeOf69
 v70 := Tryd.zeroValue69
 t72 := Tryd.underlying71
 a72 := Tryd.isAgg71
 z72 := Tryd.sizeOf71
 v72 := Tryd.zeroValue71
 t127 := Tryd.underlying107
 a127 := Tryd.isAgg107
 z127 := Tryd.sizeOf107
 v127 := Tryd.zeroValue107 }
theorem Tryd.extraB : Builder.Extra Tryd.prog Tryd.bu := {
 sizeBuilder := by kernel_rfl
 liesBuilder := by kernel_rfl
 t5 := Tryd.underlying5
 a5 := Tryd.isAgg5
 z5 := Tryd.sizeOf5
 v5 := Tryd.zeroValue5
 infoByte := by kernel_rfl
 cellsByte := by kernel_rfl
 sizeByte := by kernel_rfl
 neB5 := by decide }
theorem Tryd.headW : Bu.Head Tryd.prog Tryd.bu 73 := ⟨by kernel_rfl, by decide⟩
end Go.Proofs
