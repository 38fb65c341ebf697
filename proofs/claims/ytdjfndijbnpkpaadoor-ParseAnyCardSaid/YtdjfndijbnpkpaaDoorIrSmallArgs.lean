/-
  Small programs that came in.
-/
import Derived.Test.YtdjfndijbnpkpaaDoorIrSmall
set_option linter.unusedVariables false
set_option linter.unusedSimpArgs false
set_option linter.unusedSectionVars false
set_option maxRecDepth 100000
namespace Go.Proofs.YtdjfndijbnpkpaaDoor.Sh
open Go Go.AM Go.Proofs
theorem rsl_all {α : Type} {A : Nat → Prop} {st : St} {s : Nat} {R : List Value → α → Prop} {p : α → Prop} {v : Value} {l : List α} (h : RSl A st s (fun cs x => R cs x ∧ p x) v l) : ∀ x ∈ l, p x := by
 rcases h with ⟨rfl, _⟩ | ⟨b, o, xs, rfl, h2, h3, h4, h5⟩
 ·simp
 ·intro x hx
  obtain ⟨i, hi⟩ := List.mem_iff_getElem?.1 hx
  exact (h5 i x hi).2
theorem cells_SBlock : pg.cellsOf 72 = 5 := by kernel_rfl
theorem bytes_SBlock : pg.bytesOf 72 = 32 := by kernel_rfl
theorem cells_Small : pg.cellsOf 24 = 3 := by kernel_rfl
theorem one_Lines : pg.cellsOf 70 = 1 := by kernel_rfl
theorem one_Blocks : pg.cellsOf 22 = 1 := by kernel_rfl
theorem wt_SBlock {st : St} {cs : List Value} (h : WT pg st 72 cs) : ∃ b : SBlock, RSB (Bel st.next) st cs b ∧ b.Ok := by
 obtain ⟨hl, hf⟩ := h.getStruct Tryd.underlying72
 rw [cells_SBlock] at hl
 obtain ⟨a, b, c, d, e, rfl⟩ := list5 hl
 simp only [List.forall_mem_cons] at hf
 obtain ⟨h1, h2, h3, h4, h5, _⟩ := hf
 have h1 := fldS Tryd.underlying70 one_Lines h1 rfl
 obtain ⟨l, hr, _⟩ := h1.rsl (R := fun cs x => RLine cs x ∧ x.Ok) Tryd.underlying70 cells_Line fun cs hc => by
  obtain ⟨x, hx, hok⟩ := wt_Line hc
  exact ⟨x, hx, hok⟩
 obtain ⟨x2, rfl, w2⟩ := fld Tryd.underlying5 one5 h2 rfl
 obtain ⟨x3, rfl, w3⟩ := fld Tryd.underlying5 one5 h3 rfl
 obtain ⟨x4, rfl, w4⟩ := fld Tryd.underlying5 one5 h4 rfl
 obtain ⟨x5, rfl, w5⟩ := fld Tryd.underlying5 one5 h5 rfl
 exact ⟨⟨l, x2, x3, x4, x5⟩, ⟨a, rfl, hr.mono (fun _ h => h) (Agree.refl _ _) fun _ _ _ h => h.1⟩, ⟨rsl_all hr, bounds_u8 w2, bounds_u8 w3, bounds_u8 w4, bounds_u8 w5⟩⟩
theorem wv_Small {st : St} {v : Value} (h : WV pg st 24 v) : ∃ s : Small, RSmall (Bel st.next) st v s ∧ s.Ok ∧ s.blocks.length < 2 ^ 62 := by
 obtain ⟨cs, rfl, hw⟩ := h.agg (by simp [isStruct, Tryd.underlying24])
 obtain ⟨hl, hf⟩ := hw.getStruct Tryd.underlying24
 rw [cells_Small] at hl
 obtain ⟨a, b, c, hcs⟩ := list3 hl
 rw [hcs] at hf
 simp only [List.forall_mem_cons] at hf
 obtain ⟨h1, h2, h3, _⟩ := hf
 obtain ⟨x1, rfl, w1⟩ := fld Tryd.underlying5 one5 h1 rfl
 obtain ⟨x2, rfl⟩ := fldB Tryd.underlying4 one4 h2 rfl
 have h3 := fldS Tryd.underlying22 one_Blocks h3 rfl
 obtain ⟨l, hr, hb⟩ := h3.rsl (R := fun cs x => RSB (Bel st.next) st cs x ∧ x.Ok) Tryd.underlying22 cells_SBlock fun cs hc => wt_SBlock hc
 rw [bytes_SBlock] at hb
 have hcs' : cs = #[U x1, B x2, c] := by rw [← hcs]
 refine ⟨⟨x1, x2, l⟩, ⟨c, by rw [hcs'], hr.mono (fun _ h => h) (Agree.refl _ _) fun _ _ _ h => h.1⟩, ⟨bounds_u8 w1, rsl_all hr⟩, ?_⟩
 have : reachBytes < 2 ^ 62 := by decide
 show l.length < 2 ^ 62
 omega
end Go.Proofs.YtdjfndijbnpkpaaDoor.Sh
