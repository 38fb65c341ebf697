/-
  Texts of pieces: what is read of them.
-/
import Derived.Test.YtefdkodjpcabmaaDoorLx6
import Derived.Test.YtefdkodjpcabmaaDoorAmC
set_option linter.unusedVariables false
set_option linter.unusedSimpArgs false
set_option linter.unusedSectionVars false
set_option maxRecDepth 100000
namespace Go.AM.Lx
def shift (d : Nat) (t : Tok) : Tok := ⟨t.kind, t.at_ + d, t.text, t.n⟩
theorem split_toks (ts : List Tok) (l : List Ev) : split (ts.map (fun t => (t, (0 : Int))) ++ l) = ahead ts (split l) := by
 have key : ∀ (ts pre : List Tok), ahead pre (split (ts.map (fun t => (t, (0 : Int))) ++ l)) = ahead (pre ++ ts) (split l) := by
  intro ts
  induction ts with
  | nil => intro pre; simp
  | cons t ts ih =>
    intro pre
    rw [List.map_cons, List.cons_append, ahead_cons, ih, List.append_assoc]
    rfl
 have := key ts []
 rw [ahead_none] at this
 exact this
theorem ahead_end (ts : List Tok) (a : Nat) : ahead ts (split [(endT a, 0)]) = (ts ++ [endT a], 0, 0) := by
 rw [ahead_cons, ahead_nil]
theorem evs_line (rest : List UInt8) (a : Nat) : evs (10 :: rest) a = (⟨7, a, [], 0⟩, 0) :: evs rest (a + 1) := by
 have h : next (10 :: rest) a = (⟨7, a, [], 0⟩, 1) := by
  unfold next
  simp [show isLine 10 from rfl]
 rw [evs_tok (by decide) (by decide) (by rw [h]; simp), h]
 rfl
end Go.AM.Lx
namespace Go.Proofs.YtefdkodjpcabmaaDoor.Sh
open Go Go.AM Go.Proofs Go.AM.Lx
theorem cellEq_i (k : IntKind) (a b : Int) : cellEq .int (.int k a) (.int k b) = some (decide (a = b)) := by
 simp [cellEq]
 rfl
theorem sEq_tok (a b : Tok) (s : St) : sEq true (.fields [(0, .int), (1, .int), (2, .str), (3, .int)]) (vTok a) (vTok b) s = .ok (B (!decide (a = b)), s) := by
 obtain ⟨k, p, x, n⟩ := a
 obtain ⟨k', p', x', n'⟩ := b
 have hp : ((p : Nat) : Int) = p' ↔ p = p' := by omega
 by_cases h1 : k = k' <;> by_cases h2 : p = p' <;> by_cases h3 : x = x' <;> by_cases h4 : n = n' <;> simp [sEq, aeq, vTok, cTok, fieldsEq, cellEq_T, cellEq_i, h1, h2, h3, h4, hp]
structure Pc where
 k : Int
 g : Int
 n : Int
def cPc (p : Pc) : List Value := [U p.k, U p.g, I p.n]
structure Pc.Ok (p : Pc) : Prop where
 k : 0 ≤ p.k ∧ p.k ≤ 255
 g : 0 ≤ p.g ∧ p.g ≤ 255
 n : -9223372036854775808 ≤ p.n ∧ p.n ≤ 9223372036854775807
def RPc (cs : List Value) (p : Pc) : Prop := cs = cPc p ∧ p.Ok
theorem wt_Pc {st : St} {cs : List Value} (h : WT pg st 44 cs) : ∃ p, RPc cs p := by
 obtain ⟨hl, hfs⟩ := h.getStruct Tryd.underlying44
 rw [show pg.cellsOf 44 = 3 by kernel_rfl] at hl
 match cs, hl with
 | [x, y, z], _ =>
   simp only [List.forall_mem_cons] at hfs
   obtain ⟨h1, h2, h3, _⟩ := hfs
   obtain ⟨k, rfl, w1⟩ := fld Tryd.underlying5 (by kernel_rfl) h1 rfl
   obtain ⟨g, rfl, w2⟩ := fld Tryd.underlying5 (by kernel_rfl) h2 rfl
   obtain ⟨n, rfl, w3⟩ := fld Tryd.underlying2 (by kernel_rfl) h3 rfl
   refine ⟨⟨k, g, n⟩, rfl, ?_, ?_, ?_⟩
   ·simpa [Lit.wf, IntKind.min, IntKind.max, IntKind.signed, IntKind.bits] using w1
   ·simpa [Lit.wf, IntKind.min, IntKind.max, IntKind.signed, IntKind.bits] using w2
   ·simpa [Lit.wf, IntKind.min, IntKind.max, IntKind.signed, IntKind.bits] using w3
theorem pieces_of {st : St} {v : Value} (h : WV pg st 41 v) : ∃ l : List Pc, RSl (Bel st.next) st 3 RPc v l := by
 obtain ⟨l, hl, _⟩ := h.rsl Tryd.underlying41 (c := 3) (R := RPc) (by kernel_rfl) fun cs hw => wt_Pc hw
 exact ⟨l, hl⟩
section
variable (p : Pc) (s : St)
def vP (p : Pc) : Value := .agg (cPc p).toArray
theorem sUpd_pc : sUpd 3 0 (.agg #[U 0, U 0, I 0]) (vP p) s = .ok (vP p, s) := by simp [vP, cPc, Res.need]
theorem sField_pc : sField (some 3) 0 (vP p) s = .ok (vP p, s) := rfl
theorem vP_eq : vP p = vPc p.k p.g p.n := rfl
end
variable {K : Ctx} (hF : Fix pgF K)
include hF
end Go.Proofs.YtefdkodjpcabmaaDoor.Sh
