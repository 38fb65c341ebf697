/-
  The numbers of the functions, by name.
-/
import Derived.Test.YtefdkodjpcabmaaDoorProg
import Derived.Test.YtefdkodjpcabmaaDoorAmC
import Derived.Test.YtefdkodjpcabmaaDoorTx0
set_option linter.unusedVariables false
namespace Go.Proofs.YtefdkodjpcabmaaDoor.Sh
open Go Go.AM Go.Proofs
noncomputable abbrev pg : Program := Tryd.prog
abbrev n_refinerylaw04_LexAny : FuncId := 5
abbrev n_refinerylaw04_Awake : FuncId := 14
abbrev n_lex_Split : FuncId := 16
abbrev n_lex_Tokens : FuncId := 17
abbrev n_lex_Tokens_1 : FuncId := 29
abbrev n_lex_next : FuncId := 30
abbrev n_strconv_FormatInt : FuncId := 36
abbrev n_lex_digits : FuncId := 37
abbrev n_lex_number : FuncId := 38
abbrev n_lex_letters : FuncId := 39
abbrev n_strconv_ParseInt : FuncId := 43
theorem gq {R : Type} {K : Ctx} {J : JT R} {fin : AExit → Env → St → Res R} (hJ : IsJ K fin J) {c : ACode} {p : List Nat} {e : Env} {st : St} {r : Res R} (h : onX K J fin c p e st = r) : goX J c p e st = r := (go_eq hJ _ _ _ _).trans h
/-- Which boxes are kept in slots. -/
def hints : List (Nat × Hint) := [(3, ⟨5, [5, 6, 7, 8, 11, 12, 13, 14], [], []⟩),
 (4, ⟨1, [6, 8, 13], [32, 40, 47], []⟩),
 (5, ⟨2, [], [60, 65, 91, 96, 110, 120, 124, 129, 131, 133, 138, 143], [[15]]⟩),
 (6, ⟨2, [7, 9], [], [[14]]⟩),
 (8, ⟨2, [18, 19], [109, 115], []⟩),
 (10, ⟨2, [2, 4], [5, 8, 11, 16, 21, 26, 29], []⟩),
 (11, ⟨3, [3, 6], [18, 24, 8, 13], []⟩),
 (12, ⟨1, [1], [21, 26, 35, 43, 48, 52, 67, 76, 85, 89, 98, 107, 111], []⟩),
 (13, ⟨1, [1], [6, 12, 21, 25, 29, 38], []⟩),
 (15, ⟨1, [1, 3], [7, 11, 16, 48, 51, 57, 60, 64, 71], []⟩),
 (16, ⟨1, [], [14], [[6]]⟩),
 (19, ⟨1, [5, 7], [], []⟩),
 (20, ⟨1, [1, 5, 7, 9], [12, 21, 27, 43, 61], []⟩),
 (21, ⟨1, [1, 2, 3], [5, 13, 23, 32, 33, 34, 38, 40, 43, 45, 49, 51], []⟩),
 (23, ⟨1, [1, 2, 3], [4, 12, 13, 17, 21, 22, 26, 28, 31, 35, 33, 36], []⟩),
 (24, ⟨1, [1], [4, 13], []⟩),
 (29, ⟨2, [4], [], []⟩),
 (30, ⟨2, [4, 6], [25, 40, 41, 58, 74, 87, 88, 97, 98], []⟩),
 (31, ⟨1, [1], [9, 15, 18, 33, 40], []⟩),
 (32, ⟨1, [1], [3, 10, 16, 18], []⟩),
 (33, ⟨1, [1], [4, 6, 10], []⟩)]
noncomputable def pgX : Funs := fun f => bif Nat.beq f 36 then some (extFun 2 gFI [(1, some Lib.pow10Tab)]) else bif Nat.beq f 43 then some (extFun 3 (gPI 130) [(2, none), (3, none)]) else funs pg f
noncomputable def pgF : Funs := hide pgX hints
def Of0 (f : FuncId) (c : AFun) : Prop := ∀ {K : Ctx} (_ : Fix pgF K) {st : St} {Q : Value × St → Prop} (_ : ∀ J, IsJ K (retK c.results) J → Ok (atX K J c (AM.start []) st) Q), Ok (K.go (.call f []) st) Q
def Of1 (f : FuncId) (c : AFun) : Prop := ∀ {K : Ctx} (_ : Fix pgF K) {a0 : Value} {st : St} {Q : Value × St → Prop} (_ : ∀ J, IsJ K (retK c.results) J → Ok (atX K J c (AM.start [a0]) st) Q), Ok (K.go (.call f [a0]) st) Q
def Of2 (f : FuncId) (c : AFun) : Prop := ∀ {K : Ctx} (_ : Fix pgF K) {a0 a1 : Value} {st : St} {Q : Value × St → Prop} (_ : ∀ J, IsJ K (retK c.results) J → Ok (atX K J c (AM.start [a0, a1]) st) Q), Ok (K.go (.call f [a0, a1]) st) Q
end Go.Proofs.YtefdkodjpcabmaaDoor.Sh
