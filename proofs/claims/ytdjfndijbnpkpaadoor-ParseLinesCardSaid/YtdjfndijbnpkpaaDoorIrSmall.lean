/-
  Small programs: what they are; Light, Program.
-/
import Derived.Test.YtdjfndijbnpkpaaDoorIrInstrs0
import Derived.Test.YtdjfndijbnpkpaaDoorIrRep
import Derived.Test.YtdjfndijbnpkpaaDoorShB
set_option linter.unusedVariables false
set_option linter.unusedSimpArgs false
set_option linter.unusedSectionVars false
set_option maxRecDepth 100000
namespace Go.Proofs.YtdjfndijbnpkpaaDoor.Sh
open Go Go.AM Go.Proofs
structure SBlock where
 lines : List Line
 e : Int
 a : Int
 yes : Int
 no : Int
structure Small where
 regs : Int
 bare : Bool
 blocks : List SBlock
structure SBlock.Ok (b : SBlock) : Prop where
 lines : ∀ x ∈ b.lines, x.Ok
 e : 0 ≤ b.e ∧ b.e ≤ 255
 a : 0 ≤ b.a ∧ b.a ≤ 255
 yes : 0 ≤ b.yes ∧ b.yes ≤ 255
 no : 0 ≤ b.no ∧ b.no ≤ 255
structure Small.Ok (s : Small) : Prop where
 regs : 0 ≤ s.regs ∧ s.regs ≤ 255
 blocks : ∀ b ∈ s.blocks, b.Ok
def Small.light (s : Small) : Bool := s.blocks.all (fun b => decide (b.lines.length ≤ 10)) && decide (s.blocks.length ≤ 8)
def plabel (i : Int) : Int := 3 * i + 7 * (i % 2)
def ends : List Int := [0, 1, 1, 0, 1, 2, 1, 3]
def SBlock.last (b : SBlock) (regs n : Int) : Last := Last.only ⟨ends.getD (b.e % 8).toNat 0, b.a % regs, plabel (b.yes % n), plabel (b.no % n)⟩
def Small.nregs (s : Small) : Int := 1 + s.regs % 6
def Small.n (s : Small) : Nat := max s.blocks.length 1
def Small.firsts (s : Small) : List Instr := (List.range s.nregs.toNat).map fun (r : Nat) => ⟨0, 0, r, 0, 0, (r : Int) * r, 0⟩
def Small.block (s : Small) (i : Nat) : Block :=
 { label := plabel i, phis := [],
   instrs := (if i = 0 ∧ s.bare = false then s.firsts else []) ++ (match s.blocks[i]? with | some b => b.lines.map (·.instr s.nregs) | none => []),
   last := match s.blocks[i]? with | some b => b.last s.nregs s.n | none => if s.bare then ⟨3, 0, 0, 0⟩ else ⟨2, 0, 0, 0⟩ }
def Small.prog (s : Small) : Prog := (List.range s.n).map s.block
def RLine (cs : List Value) (x : Line) : Prop := cs = cLine x
def RSB (A : Nat → Prop) (st : St) (cs : List Value) (b : SBlock) : Prop := ∃ vl, cs = [vl, U b.e, U b.a, U b.yes, U b.no] ∧ RSl A st 7 RLine vl b.lines
def RSmall (A : Nat → Prop) (st : St) (v : Value) (s : Small) : Prop := ∃ vb, v = .agg #[U s.regs, B s.bare, vb] ∧ RSl A st 5 (RSB A st) vb s.blocks
theorem RSB.mono {A : Nat → Prop} {st st' : St} {cs : List Value} {b : SBlock} (h : RSB A st cs b) (hE : Agree A st st') : RSB A st' cs b := by
 obtain ⟨vl, h1, h2⟩ := h
 exact ⟨vl, h1, h2.mono (fun _ h => h) hE (fun _ _ _ h => h)⟩
theorem RSmall.mono {A : Nat → Prop} {st st' : St} {v : Value} {s : Small} (h : RSmall A st v s) (hE : Agree A st st') : RSmall A st' v s := by
 obtain ⟨vb, h1, h2⟩ := h
 exact ⟨vb, h1, RSl.mono h2 (fun _ h => h) hE (fun _ _ _ h => h.mono hE)⟩
variable {K : Ctx} (hF : Fix pgF K)
include hF
omit hF
structure PI (st0 st : St) (q : Prog) (vp : Value) (ids : List Nat) (vi : Value) (l : List Instr) (is : List Nat) : Prop where
 ext : Ext st0 st
 prog : PProg st vp q ids
 ins : RepSl 7 PInstr st vi l is
 nd : (ids ++ is).Nodup
 lo : ∀ id ∈ ids ++ is, st0.next ≤ id ∧ id < st.next
theorem PI.mono {st0 st st' : St} {q : Prog} {vp vi : Value} {ids is : List Nat} {l : List Instr} (h : PI st0 st q vp ids vi l is) (hE : Ext st st') : PI st0 st' q vp ids vi l is where
 ext := h.ext.trans hE
 prog := h.prog.frame fun id hi => hE.get id (h.lo id (List.mem_append_left _ hi)).2
 ins := h.ins.frame PInstr.fr fun id hi => hE.get id (h.lo id (List.mem_append_right _ hi)).2
 nd := h.nd
 lo := fun id hi => ⟨(h.lo id hi).1, Nat.lt_of_lt_of_le (h.lo id hi).2 hE.next⟩
theorem PI.push {st0 st : St} {q : Prog} {vp vi : Value} {ids is : List Nat} {l : List Instr} (h : PI st0 st q vp ids vi l is) (hro : st0.ro ≤ st0.next) (x : Instr) (hb : l.length < 1000) :
 ∃ (vi' : Value) (st' : St) (is' : List Nat), sAppend 7 48 vi (Sl st.next 0 1 7) (st.alloc (.cells (cI x))) = .ok (vi', st') ∧ PI st0 st' q vp ids vi' (l ++ [x]) is' := by
 obtain ⟨v', st', is', r, h1, h2, h3, h4, h5, h6⟩ := RepSl.push (bytes := 48) PInstr.fr h.ins (by omega) (x := x) (cs := cI x) (is := []) ⟨rfl, rfl⟩ rfl rfl (fun id hi => (h.lo id (List.mem_append_right _ (by simpa using hi))).2) (fun id hi => by
  rw [h.ext.ro]; exact Nat.le_trans hro (h.lo id (List.mem_append_right _ hi)).1) (by simpa using (List.nodup_append.1 h.nd).2.1) (by omega)
 have hdis : ∀ id ∈ ids, id ∉ is := fun id hi hj => (List.nodup_append.1 h.nd).2.2 id hi id hj rfl
 refine ⟨v', st', is', r, ext_of h.ext (Nat.le_of_lt h5) h6 (fun id hi => (h.lo id (List.mem_append_right _ hi)).1) h4, h.prog.frame fun id hi => h4 id (h.lo id (List.mem_append_left _ hi)).2 (hdis id hi), h1,
  nodup_swap h.nd h2 (fun id hi => (h3 id hi).imp (fun k => k) fun k => k.elim (fun k => by cases k) fun k => k.1) (fun id hi => (h.lo id (List.mem_append_left _ hi)).2), fun id hi => ?_⟩
 rcases List.mem_append.1 hi with hi | hi
 ·exact ⟨(h.lo id (List.mem_append_left _ hi)).1, Nat.lt_trans (h.lo id (List.mem_append_left _ hi)).2 h5⟩
 ·rcases h3 id hi with k | k | k
  ·exact ⟨(h.lo id (List.mem_append_right _ k)).1, Nat.lt_trans (h.lo id (List.mem_append_right _ k)).2 h5⟩
  ·cases k
  ·exact ⟨Nat.le_trans h.ext.next k.1, k.2⟩
theorem PI.block {st0 st : St} {q : Prog} {vp vi : Value} {ids is : List Nat} {l : List Instr} (h : PI st0 st q vp ids vi l is) (hro : st0.ro ≤ st0.next) (n : Int) (m : Last) (hb : q.length < 1000) :
 ∃ (vp' : Value) (st' : St) (ids' : List Nat), sAppend 7 88 vp (Sl st.next 0 1 7) (st.alloc (.cells (cB n (.slice none 0 0) vi m))) = .ok (vp', st') ∧ PI st0 st' (q ++ [⟨n, [], l, m⟩]) vp' ids' (.slice none 0 0) [] [] := by
 have hck : (cB n (.slice none 0 0) vi m).all cellOk = true := by simp [cB, h.ins.cell]
 obtain ⟨v', st', ids', r, h1, h2, h3, h4, h5, h6⟩ := RepSl.push (bytes := 88) PBlock.fr h.prog (by omega) (x := ⟨n, [], l, m⟩) (cs := cB n (.slice none 0 0) vi m) (is := is) ⟨_, _, [], is, rfl, RepSl.nil _, h.ins, rfl⟩ rfl hck (fun id hi => (h.lo id hi).2) (fun id hi => by
  rw [h.ext.ro]; exact Nat.le_trans hro (h.lo id (List.mem_append_left _ hi)).1) h.nd (by omega)
 refine ⟨v', st', ids', r, ext_of h.ext (Nat.le_of_lt h5) h6 (fun id hi => (h.lo id (List.mem_append_left _ hi)).1) h4, h1, RepSl.nil _, by simpa using h2, fun id hi => ?_⟩
 rw [List.append_nil] at hi
 rcases h3 id hi with k | k | k
 ·exact ⟨(h.lo id (List.mem_append_left _ k)).1, Nat.lt_trans (h.lo id (List.mem_append_left _ k)).2 h5⟩
 ·exact ⟨(h.lo id (List.mem_append_right _ k)).1, Nat.lt_trans (h.lo id (List.mem_append_right _ k)).2 h5⟩
 ·exact ⟨Nat.le_trans h.ext.next k.1, k.2⟩
section
variable {J : JT (Value × St)} (hJ : IsJ K (retK refinerylaw03_Small_Program_c.results) J) {A : Nat → Prop} {st0 : St} (hro : st0.ro ≤ st0.next) {s : Small} (hs : s.Ok) (hl : s.light = true) {vb : Value} (hA : ∀ id, A id → id < st0.next) (hb : RSl A st0 5 (RSB A st0) vb s.blocks) {Q : Value × St → Prop}
include hF hJ hro hs hl hA hb
end
include hF
end Go.Proofs.YtdjfndijbnpkpaaDoor.Sh
