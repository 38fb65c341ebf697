/-
  Tokens of plain programs: what is read of their texts (helpers for the laws of chapter 5).
  Plain programs that may be: what the laws of chapter 5 use; small programs are such.
  A program's tokens without the last one are read, too.
  Parts of lists of tokens; gaps that came in.
-/
import Derived.Test.YtdjfndijbnpkpaaDoorTkB
import Derived.Test.YtdjfndijbnpkpaaDoorIrLine
import Derived.Test.YtdjfndijbnpkpaaDoorIrInstrs0
import Derived.Test.YtdjfndijbnpkpaaDoorIrPlain
import Derived.Test.YtdjfndijbnpkpaaDoorIrSmallArgs
set_option linter.unusedVariables false
set_option linter.unusedSimpArgs false
set_option linter.unusedSectionVars false
set_option maxRecDepth 100000
set_option linter.unnecessarySimpa false
namespace Go.Proofs.YtdjfndijbnpkpaaDoor.Sh
open Go Go.AM Go.Proofs Go.AM.Lx
theorem Instr.Good.fit {x : Instr} (h : x.Good) : x.Fit := by
 obtain ⟨h1, h2, h3, h4, h5, h6, h7, h8⟩ := h
 exact ⟨⟨by omega, by omega⟩, ⟨by omega, by omega⟩, ⟨by omega, by omega⟩, h8, ⟨by omega, by omega⟩, ⟨by omega, by omega⟩⟩
theorem Last.Good.fit {l : Last} (h : l.Good) : l.Fit := by
 obtain ⟨h1, h2, h3, h4, h5⟩ := h
 exact ⟨⟨by omega, by omega⟩, ⟨by omega, by omega⟩, ⟨by omega, by omega⟩⟩
theorem fits_of {p : Prog} (hg : ∀ b ∈ p, b.Good) (hc : count p < 100000) : ∀ b ∈ p, (∀ x ∈ b.instrs, x.Fit) ∧ b.last.Fit ∧ fitN b.label ∧ b.instrs.length ≤ 100000 := fun b hb => by
 have g := hg b hb
 have := count_mem hb
 have hl := g.label
 exact ⟨fun x hx => (g.instrs x hx).fit, g.last.fit, ⟨by omega, by omega⟩, by omega⟩
theorem rsl_toks {n0 : Nat} {st : St} {v : Value} {l : List Rd} (h : Own n0 st 1 v (txs l)) : RSl (Rng n0 st.next) st 1 (fun cs p => cs = [T p.1]) v l := Own.rsl1 (f := fun p : Rd => T p.1) h
theorem items_len {l : List Rd} (h : ∀ p ∈ l, Item p) : ∀ p ∈ l, p.1.length ≤ 21 := fun p hp => (h p hp).reads.len
theorem rdI_len (x : Instr) : (rdI x).length ≤ 6 := by
 unfold rdI
 (repeat' split) <;> simp
theorem rdL_len (l : Last) : (rdL l).length ≤ 6 := by
 unfold rdL
 (repeat' split) <;> simp
theorem rdI_flat_len (is : List Instr) : (is.flatMap fun x => rdI x ++ [rLine]).length ≤ 7 * is.length := by
 induction is with
 | nil => simp
 | cons x is ih =>
   have := rdI_len x
   rw [List.flatMap_cons, List.length_append, List.length_append, List.length_cons]
   simp only [List.length_cons, List.length_nil]
   omega
theorem rdB_len (b : Block) : (rdB b).length ≤ 10 + 7 * b.instrs.length := by
 have h1 := rdI_flat_len b.instrs
 have h2 := rdL_len b.last
 unfold rdB
 simp only [List.length_append, List.length_cons, List.length_nil]
 omega
theorem rdP_len (p : Prog) : (rdP p).length ≤ (10 * count p).toNat := by
 unfold rdP count
 induction p with
 | nil => simp
 | cons b p ih =>
   have h1 := rdB_len b
   have h2 := count_nonneg p
   unfold count at h2
   rw [List.flatMap_cons, List.length_append, List.map_cons, List.sum_cons]
   omega
variable {K : Ctx} (hF : Fix pgF K)
include hF
theorem TokText_ok {A : Nat → Prop} {st : St} {vp : Value} {p : Prog} (hA : ∀ id, A id → id < st.next) (hp : RProg A st vp p) (hg : ∀ b ∈ p, b.Good) (hc : count p < 10000) (hro : st.ro ≤ st.next) {Q : Value × St → Prop} {k : Value × St → Res (Value × St)}
 (h : ∀ vt n0 s, st.next ≤ n0 → Own n0 s 1 vt (txs (rdP p)) → Ext st s → Ok (k (vt, s)) Q) : Ok (Res.thn st (K.go (.call n_refinerylaw05_Tokens [.agg #[vp]]) st) k) Q := by
 have hl := len_le p
 have hr := rdP_len p
 refine (Tokens_ok hF hA hp (fits_of hg (by omega)) hro (by omega) (by omega)).thn fun ⟨vt, s⟩ ⟨n0, e1, e2, e3⟩ => ?_
 exact h vt n0 s e1 e2 e3
end Go.Proofs.YtdjfndijbnpkpaaDoor.Sh
namespace Go.Proofs.YtdjfndijbnpkpaaDoor.Sh
open Go Go.AM Go.Proofs Go.AM.Lx
structure Block.Base (b : Block) : Prop where
 phis : b.phis = []
 instrs : ∀ x ∈ b.instrs, 0 ≤ x.kind ∧ 0 ≤ x.op ∧ fitN x.n
 last : 0 ≤ b.last.kind
end Go.Proofs.YtdjfndijbnpkpaaDoor.Sh
namespace Go.Proofs.YtdjfndijbnpkpaaDoor.Sh
open Go Go.AM Go.Proofs Go.AM.Lx
namespace PS
end PS
variable {K : Ctx} (hF : Fix pgF K)
include hF
end Go.Proofs.YtdjfndijbnpkpaaDoor.Sh
namespace Go.Proofs.YtdjfndijbnpkpaaDoor.Sh
open Go Go.AM Go.Proofs Go.AM.Lx
end Go.Proofs.YtdjfndijbnpkpaaDoor.Sh
