/-
 What is made of a line may be.
 Contracts: Line.Instr, Turned.
 Small programs: what they are; Light, Program.
 Small programs may be: the plain law.
 Small programs that came in.
-/
import Derived.Test.YtlpdlohikfkjnaaDoorIrX
import Derived.Test.YtlpdlohikfkjnaaDoorShB
section
set_option linter.unusedVariables false
set_option linter.unusedSimpArgs false
set_option linter.unusedSectionVars false
set_option maxRecDepth 100000
namespace Go.Proofs.YtlpdlohikfkjnaaDoor.Sh
open Go Go.AM Go.Proofs
theorem reg_small3 {n : Int} (h : 0 ≤ n ∧ n ≤ 255) : isReg n = true := by simp [isReg]; omega
theorem check_only3 (x : Instr) (hk : 0 ≤ x.kind ∧ x.kind < 9) (ho : 0 ≤ x.op ∧ x.op < 12) (hd : 0 ≤ x.dst ∧ x.dst ≤ 255) (ha : 0 ≤ x.a ∧ x.a ≤ 255) (hb : 0 ≤ x.b ∧ x.b ≤ 255) (hs : 0 ≤ x.slot ∧ x.slot < 16) :
 x.only.check = 0 ∧ x.check = if x = x.only then 0 else 5 := by
 have h1 : x.check = if x ≠ x.only then 5 else 0 := by
  unfold Instr.check
  rw [if_neg (by omega)]
  congr 1
  rw [if_neg]
  simp [reg_small3 hd, reg_small3 ha, reg_small3 hb]
  omega
 refine ⟨?_, by
  rw [h1]
  by_cases h : x = x.only
  ·rw [if_neg (fun h' => h' h), if_pos h]
  ·rw [if_pos h, if_neg h]⟩
 have hk' : x.only.kind = x.kind := rfl
 have ho' : x.only.op = 0 ∨ x.only.op = x.op := by unfold Instr.only; simp only; split <;> simp
 have hd' : x.only.dst = 0 ∨ x.only.dst = x.dst := by unfold Instr.only Instr.sets; simp only; split <;> simp
 have ha' : x.only.a = 0 ∨ x.only.a = x.a := by
  unfold Instr.only Instr.reads; simp only
  split
  ·simp
  ·split <;> simp
 have hb' : x.only.b = 0 ∨ x.only.b = x.b := by
  unfold Instr.only Instr.reads; simp only
  split
  ·simp
  ·split <;> simp
 have hs' : x.only.slot = 0 ∨ x.only.slot = x.slot := by unfold Instr.only; simp only; split <;> simp
 unfold Instr.check
 rw [if_neg (by omega), if_neg (by rw [only_only]; simp), if_neg]
 have r1 : isReg x.only.dst = true := reg_small3 (by omega)
 have r2 : isReg x.only.a = true := reg_small3 (by omega)
 have r3 : isReg x.only.b = true := reg_small3 (by omega)
 simp [r1, r2, r3]
 omega
theorem ferr_zero {l : List Int} (h : ∀ e ∈ l, e = 0) : ferr l = 0 := by
 induction l with
 | nil => rfl
 | cons e l ih => rw [ferr, if_pos (h e (List.mem_cons_self ..)), ih fun e he => h e (List.mem_cons_of_mem _ he)]
theorem line_instr {x : Line} (hx : x.Ok) {r : Int} (hr : 1 ≤ r ∧ r ≤ 6) : (x.instr r).check = 0 := by
 refine (check_only3 ⟨x.kind % 9, x.op % 12, x.dst % r, x.a % r, x.b % r, x.n, x.slot % 3⟩ ?_ ?_ ?_ ?_ ?_ ?_).1
 ·simp only; omega
 ·simp only; omega
 ·have := Int.emod_nonneg x.dst (show r ≠ 0 by omega); have := Int.emod_lt_of_pos x.dst (show 0 < r by omega); simp only; omega
 ·have := Int.emod_nonneg x.a (show r ≠ 0 by omega); have := Int.emod_lt_of_pos x.a (show 0 < r by omega); simp only; omega
 ·have := Int.emod_nonneg x.b (show r ≠ 0 by omega); have := Int.emod_lt_of_pos x.b (show 0 < r by omega); simp only; omega
 ·simp only; omega
end Go.Proofs.YtlpdlohikfkjnaaDoor.Sh
end
section
set_option linter.unusedVariables false
set_option linter.unusedSimpArgs false
set_option linter.unusedSectionVars false
set_option maxRecDepth 100000
namespace Go.Proofs.YtlpdlohikfkjnaaDoor.Sh
open Go Go.AM Go.Proofs
@[simp] theorem sEq_nilFunc (f : Fn) (p c : Array Value) (st : St) : sEq false (.nilOf .func) (.func f p c) .nilFunc st = .ok (B false, st) := rfl
variable {K : Ctx} (hF : Fix pgF K)
include hF
theorem LineInstr_ok (x : Line) (hx : x.Ok) (regs : Int) (hr : 1 ≤ regs ∧ regs < 2 ^ 62) (st : St) : Ok (K.go (.call n_refinerylaw03_Line_Instr [.agg (cLine x).toArray, I regs]) st) fun r => r.1 = vI (x.instr regs) ∧ Ext st r.2 := by
 refine refinerylaw03_Line_Instr_of hF fun J hJ => ?_
 rw [refinerylaw03_Line_Instr_eq]
 obtain ⟨h1, h2, h3, h4, h5, h6, h7⟩ := hx
 have hr0 : regs ≠ 0 := by omega
 have b3 := Int.emod_nonneg x.slot (show (3 : Int) ≠ 0 by decide)
 have b4 := Int.emod_lt_of_pos x.slot (show (0 : Int) < 3 by decide)
 simp [cLine, sBuild, fillL, Res.need, hr0, Int.tmod_eq_emod_of_nonneg h1.1, Int.tmod_eq_emod_of_nonneg h2.1, Int.tmod_eq_emod_of_nonneg h6.1, wrap_id (n := x.dst) (by omega), wrap_id (n := x.a) (by omega), wrap_id (n := x.b) (by omega), wrap_id (n := x.n) (by omega), wrap_id (n := x.slot % 3) (by omega),
  Int.tmod_eq_emod_of_nonneg h3.1, Int.tmod_eq_emod_of_nonneg h4.1, Int.tmod_eq_emod_of_nonneg h5.1]
 refine (Only_ok hF ⟨x.kind % 9, x.op % 12, x.dst % regs, x.a % regs, x.b % regs, x.n, x.slot % 3⟩ _).call fun s hE => ?_
 simp [vI, Res.need, oneOf, Line.instr]
 exact Ext.trans (by simp) hE
end Go.Proofs.YtlpdlohikfkjnaaDoor.Sh
end
section
set_option linter.unusedVariables false
set_option linter.unusedSimpArgs false
set_option linter.unusedSectionVars false
set_option maxRecDepth 100000
namespace Go.Proofs.YtlpdlohikfkjnaaDoor.Sh
open Go Go.AM Go.Proofs
structure SBlock where
 lines : List Line
 e : Int
 a : Int
 yes : Int
 no : Int
structure Small where
 regs : Int
 bare : Bool
 blocks : List SBlock
structure SBlock.Ok (b : SBlock) : Prop where
 lines : ∀ x ∈ b.lines, x.Ok
 e : 0 ≤ b.e ∧ b.e ≤ 255
 a : 0 ≤ b.a ∧ b.a ≤ 255
 yes : 0 ≤ b.yes ∧ b.yes ≤ 255
 no : 0 ≤ b.no ∧ b.no ≤ 255
structure Small.Ok (s : Small) : Prop where
 regs : 0 ≤ s.regs ∧ s.regs ≤ 255
 blocks : ∀ b ∈ s.blocks, b.Ok
def Small.light (s : Small) : Bool := s.blocks.all (fun b => decide (b.lines.length ≤ 10)) && decide (s.blocks.length ≤ 8)
def plabel (i : Int) : Int := 3 * i + 7 * (i % 2)
def ends : List Int := [0, 1, 1, 0, 1, 2, 1, 3]
def SBlock.last (b : SBlock) (regs n : Int) : Last := Last.only ⟨ends.getD (b.e % 8).toNat 0, b.a % regs, plabel (b.yes % n), plabel (b.no % n)⟩
def Small.nregs (s : Small) : Int := 1 + s.regs % 6
def Small.n (s : Small) : Nat := max s.blocks.length 1
def Small.firsts (s : Small) : List Instr := (List.range s.nregs.toNat).map fun (r : Nat) => ⟨0, 0, r, 0, 0, (r : Int) * r, 0⟩
def Small.block (s : Small) (i : Nat) : Block :=
 { label := plabel i, phis := [],
   instrs := (if i = 0 ∧ s.bare = false then s.firsts else []) ++ (match s.blocks[i]? with | some b => b.lines.map (·.instr s.nregs) | none => []),
   last := match s.blocks[i]? with | some b => b.last s.nregs s.n | none => if s.bare then ⟨3, 0, 0, 0⟩ else ⟨2, 0, 0, 0⟩ }
def Small.prog (s : Small) : Prog := (List.range s.n).map s.block
def RLine (cs : List Value) (x : Line) : Prop := cs = cLine x
def RSB (A : Nat → Prop) (st : St) (cs : List Value) (b : SBlock) : Prop := ∃ vl, cs = [vl, U b.e, U b.a, U b.yes, U b.no] ∧ RSl A st 7 RLine vl b.lines
def RSmall (A : Nat → Prop) (st : St) (v : Value) (s : Small) : Prop := ∃ vb, v = .agg #[U s.regs, B s.bare, vb] ∧ RSl A st 5 (RSB A st) vb s.blocks
theorem RSB.mono {A : Nat → Prop} {st st' : St} {cs : List Value} {b : SBlock} (h : RSB A st cs b) (hE : Agree A st st') : RSB A st' cs b := by
 obtain ⟨vl, h1, h2⟩ := h
 exact ⟨vl, h1, h2.mono (fun _ h => h) hE (fun _ _ _ h => h)⟩
theorem RSmall.mono {A : Nat → Prop} {st st' : St} {v : Value} {s : Small} (h : RSmall A st v s) (hE : Agree A st st') : RSmall A st' v s := by
 obtain ⟨vb, h1, h2⟩ := h
 exact ⟨vb, h1, RSl.mono h2 (fun _ h => h) hE (fun _ _ _ h => h.mono hE)⟩
variable {K : Ctx} (hF : Fix pgF K)
include hF
theorem Label_eq (i : Int) (st : St) (hi : 0 ≤ i ∧ i < 2 ^ 32) : K.go (.call n_refinerylaw03_Label [I i]) st = .ok (I (plabel i), st) := by
 refine Ok.eq (refinerylaw03_Label_of hF fun J hJ => ?_)
 rw [refinerylaw03_Label_eq]
 have h2 : i.tmod 2 = i % 2 := Int.tmod_eq_emod_of_nonneg hi.1
 simp [h2, wrap_id (n := 3 * i) (by omega), wrap_id (n := 7 * (i % 2)) (by omega), wrap_id (n := 3 * i + 7 * (i % 2)) (by omega), plabel]
theorem BLast_ok (b : SBlock) (hb : b.Ok) (vl : Value) (hvl : cellOk vl = true) (regs n : Int) (hr : 1 ≤ regs ∧ regs ≤ 255) (hn : 1 ≤ n ∧ n ≤ 255) (st : St) :
 Ok (K.go (.call n_refinerylaw03_Block_Last [.agg #[vl, U b.e, U b.a, U b.yes, U b.no], I regs, I n]) st) fun r => r.1 = vL (b.last regs n) ∧ Ext st r.2 := by
 refine refinerylaw03_Block_Last_of hF fun J hJ => ?_
 rw [refinerylaw03_Block_Last_eq]
 obtain ⟨_, h1, h2, h3, h4⟩ := hb
 have hn0 : n ≠ 0 := by omega
 have hr0 : regs ≠ 0 := by omega
 have e1 := Int.tmod_eq_emod_of_nonneg (b := n) h3.1
 have e2 := Int.tmod_eq_emod_of_nonneg (b := n) h4.1
 have e3 := Int.tmod_eq_emod_of_nonneg (b := 8) h1.1
 have e4 := Int.tmod_eq_emod_of_nonneg (b := regs) h2.1
 have b1 := Int.emod_nonneg b.yes hn0
 have b2 := Int.emod_lt_of_pos b.yes (show 0 < n by omega)
 have b3 := Int.emod_nonneg b.no hn0
 have b4 := Int.emod_lt_of_pos b.no (show 0 < n by omega)
 simp [hn0, hr0, e1, e2, wrap_id (n := b.yes) (by omega), wrap_id (n := b.no) (by omega), Label_eq hF _ _ (show 0 ≤ b.yes % n ∧ b.yes % n < 2 ^ 32 by omega), Label_eq hF _ _ (show 0 ≤ b.no % n ∧ b.no % n < 2 ^ 32 by omega), Res.need]
 have hlit : ∀ s : St, sLit 1 8 [U 0, U 0, U 0, U 0, U 0, U 0, U 0, U 0] [(0, 1, U 0), (1, 1, U 1), (2, 1, U 1), (3, 1, U 0), (4, 1, U 1), (5, 1, U 2), (6, 1, U 1), (7, 1, U 3)] s = .ok (Sl s.next 0 8 1, s.alloc (.cells [U 0, U 1, U 1, U 0, U 1, U 2, U 1, U 3])) := fun s => rfl
 have h8 : b.e % 8 = 0 ∨ b.e % 8 = 1 ∨ b.e % 8 = 2 ∨ b.e % 8 = 3 ∨ b.e % 8 = 4 ∨ b.e % 8 = 5 ∨ b.e % 8 = 6 ∨ b.e % 8 = 7 := by omega
 rcases h8 with h | h | h | h | h | h | h | h
 all_goals
  simp [hlit, e3, h, sIxA, index, Res.need, load1_def, sStays, sameVal, sameOne, sameCell, idOf, e4, hr0, wrap_id (n := b.a) (by omega), sBuild, fillL]
  refine (LOnly_ok hF ⟨_, b.a % regs, plabel (b.yes % n), plabel (b.no % n)⟩ _).call fun s hE => ?_
  have hbl : b.last regs n = Last.only ⟨ends.getD (b.e % 8).toNat 0, b.a % regs, plabel (b.yes % n), plabel (b.no % n)⟩ := rfl
  rw [hbl, h]
  simp [vL, Res.need, oneOf, ends]
  exact Ext.trans (by simp) hE
omit hF
structure PI (st0 st : St) (q : Prog) (vp : Value) (ids : List Nat) (vi : Value) (l : List Instr) (is : List Nat) : Prop where
 ext : Ext st0 st
 prog : PProg st vp q ids
 ins : RepSl 7 PInstr st vi l is
 nd : (ids ++ is).Nodup
 lo : ∀ id ∈ ids ++ is, st0.next ≤ id ∧ id < st.next
theorem PI.mono {st0 st st' : St} {q : Prog} {vp vi : Value} {ids is : List Nat} {l : List Instr} (h : PI st0 st q vp ids vi l is) (hE : Ext st st') : PI st0 st' q vp ids vi l is where
 ext := h.ext.trans hE
 prog := h.prog.frame fun id hi => hE.get id (h.lo id (List.mem_append_left _ hi)).2
 ins := h.ins.frame PInstr.fr fun id hi => hE.get id (h.lo id (List.mem_append_right _ hi)).2
 nd := h.nd
 lo := fun id hi => ⟨(h.lo id hi).1, Nat.lt_of_lt_of_le (h.lo id hi).2 hE.next⟩
theorem PI.push {st0 st : St} {q : Prog} {vp vi : Value} {ids is : List Nat} {l : List Instr} (h : PI st0 st q vp ids vi l is) (hro : st0.ro ≤ st0.next) (x : Instr) (hb : l.length < 1000) :
 ∃ (vi' : Value) (st' : St) (is' : List Nat), sAppend 7 48 vi (Sl st.next 0 1 7) (st.alloc (.cells (cI x))) = .ok (vi', st') ∧ PI st0 st' q vp ids vi' (l ++ [x]) is' := by
 obtain ⟨v', st', is', r, h1, h2, h3, h4, h5, h6⟩ := RepSl.push (bytes := 48) PInstr.fr h.ins (by omega) (x := x) (cs := cI x) (is := []) ⟨rfl, rfl⟩ rfl rfl (fun id hi => (h.lo id (List.mem_append_right _ (by simpa using hi))).2) (fun id hi => by
  rw [h.ext.ro]; exact Nat.le_trans hro (h.lo id (List.mem_append_right _ hi)).1) (by simpa using (List.nodup_append.1 h.nd).2.1) (by omega)
 have hdis : ∀ id ∈ ids, id ∉ is := fun id hi hj => (List.nodup_append.1 h.nd).2.2 id hi id hj rfl
 refine ⟨v', st', is', r, ext_of h.ext (Nat.le_of_lt h5) h6 (fun id hi => (h.lo id (List.mem_append_right _ hi)).1) h4, h.prog.frame fun id hi => h4 id (h.lo id (List.mem_append_left _ hi)).2 (hdis id hi), h1,
  nodup_swap h.nd h2 (fun id hi => (h3 id hi).imp (fun k => k) fun k => k.elim (fun k => by cases k) fun k => k.1) (fun id hi => (h.lo id (List.mem_append_left _ hi)).2), fun id hi => ?_⟩
 rcases List.mem_append.1 hi with hi | hi
 ·exact ⟨(h.lo id (List.mem_append_left _ hi)).1, Nat.lt_trans (h.lo id (List.mem_append_left _ hi)).2 h5⟩
 ·rcases h3 id hi with k | k | k
  ·exact ⟨(h.lo id (List.mem_append_right _ k)).1, Nat.lt_trans (h.lo id (List.mem_append_right _ k)).2 h5⟩
  ·cases k
  ·exact ⟨Nat.le_trans h.ext.next k.1, k.2⟩
theorem PI.block {st0 st : St} {q : Prog} {vp vi : Value} {ids is : List Nat} {l : List Instr} (h : PI st0 st q vp ids vi l is) (hro : st0.ro ≤ st0.next) (n : Int) (m : Last) (hb : q.length < 1000) :
 ∃ (vp' : Value) (st' : St) (ids' : List Nat), sAppend 7 88 vp (Sl st.next 0 1 7) (st.alloc (.cells (cB n (.slice none 0 0) vi m))) = .ok (vp', st') ∧ PI st0 st' (q ++ [⟨n, [], l, m⟩]) vp' ids' (.slice none 0 0) [] [] := by
 have hck : (cB n (.slice none 0 0) vi m).all cellOk = true := by simp [cB, h.ins.cell]
 obtain ⟨v', st', ids', r, h1, h2, h3, h4, h5, h6⟩ := RepSl.push (bytes := 88) PBlock.fr h.prog (by omega) (x := ⟨n, [], l, m⟩) (cs := cB n (.slice none 0 0) vi m) (is := is) ⟨_, _, [], is, rfl, RepSl.nil _, h.ins, rfl⟩ rfl hck (fun id hi => (h.lo id hi).2) (fun id hi => by
  rw [h.ext.ro]; exact Nat.le_trans hro (h.lo id (List.mem_append_left _ hi)).1) h.nd (by omega)
 refine ⟨v', st', ids', r, ext_of h.ext (Nat.le_of_lt h5) h6 (fun id hi => (h.lo id (List.mem_append_left _ hi)).1) h4, h1, RepSl.nil _, by simpa using h2, fun id hi => ?_⟩
 rw [List.append_nil] at hi
 rcases h3 id hi with k | k | k
 ·exact ⟨(h.lo id (List.mem_append_left _ k)).1, Nat.lt_trans (h.lo id (List.mem_append_left _ k)).2 h5⟩
 ·exact ⟨(h.lo id (List.mem_append_right _ k)).1, Nat.lt_trans (h.lo id (List.mem_append_right _ k)).2 h5⟩
 ·exact ⟨Nat.le_trans h.ext.next k.1, k.2⟩
section
variable {J : JT (Value × St)} (hJ : IsJ K (retK refinerylaw03_Small_Program_c.results) J) {A : Nat → Prop} {st0 : St} (hro : st0.ro ≤ st0.next) {s : Small} (hs : s.Ok) (hl : s.light = true) {vb : Value} (hA : ∀ id, A id → id < st0.next) (hb : RSl A st0 5 (RSB A st0) vb s.blocks) {Q : Value × St → Prop}
include hF hJ hro hs hl hA hb
end
include hF
end Go.Proofs.YtlpdlohikfkjnaaDoor.Sh
end
section
set_option linter.unusedVariables false
set_option linter.unusedSimpArgs false
set_option linter.unusedSectionVars false
set_option maxRecDepth 100000
namespace Go.Proofs.YtlpdlohikfkjnaaDoor.Sh
open Go Go.AM Go.Proofs
theorem dupGo_append (p q : Prog) (seen : List Int) : dupGo seen (p ++ q) = if dupGo seen p = 0 then dupGo (seen ++ p.map (·.label)) q else dupGo seen p := by
 induction p generalizing seen with
 | nil => simp [dupGo]
 | cons b p ih =>
   simp only [List.cons_append, dupGo]
   split
   ·simp
   ·split
    ·simp
    ·rw [ih]; simp
def dupL (seen : List Int) : List Int → Int
 | [] => 0
 | b :: p => if b < 0 ∨ 100000 ≤ b then 2 else if b ∈ seen then 8 else dupL (seen ++ [b]) p
theorem dupGo_labels (p : Prog) (seen : List Int) : dupGo seen p = dupL seen (p.map (·.label)) := by
 induction p generalizing seen with
 | nil => rfl
 | cons b p ih => simp only [dupGo, List.map_cons, dupL, ih]
structure Split (q : Prog) (b : Block) : Prop where
 phis : b.phis = []
 qlen : q.length < 8
 ilen : b.instrs.length ≤ 16
 cnt : count q ≤ 200
 lab : ∀ l ∈ (q ++ [b]).map (·.label), 0 ≤ l ∧ l < 1000
 dup : dupGo [] (q ++ [b]) = 0
 fine : ∀ c ∈ q ++ [b], blockErr ((q ++ [b]).map (·.label)) c = 0
section
variable {q : Prog} {b : Block} (h : Split q b)
include h
theorem Split.lens : q.length + 1 ≤ 8 ∧ count (q ++ [b]) ≤ 300 := by
 have h1 := h.qlen; have h2 := h.ilen; have h3 := h.cnt; have h4 := h.phis
 rw [count_append]
 have : count [b] = b.instrs.length + b.phis.length + 1 := by simp [count]
 rw [this, h4]
 simp only [List.length_nil]
 omega
theorem Split.turn {b' : Block} (h1 : b'.label = b.label) (h2 : count [b'] ≤ 3000) : check (q ++ [b']) = blockErr ((q ++ [b]).map (·.label)) b' := by
 have hl : (q ++ [b']).map (·.label) = (q ++ [b]).map (·.label) := by simp [h1]
 have hc := h.cnt
 have hq := h.qlen
 unfold check
 rw [if_neg (by simp; omega), if_neg (by rw [count_append]; omega), if_pos (by rw [dupGo_labels, hl, ← dupGo_labels]; exact h.dup), hl, List.map_append, ferr_append, if_pos]
 ·simp only [List.map_cons, List.map_nil, ferr]
  split
  ·rename_i he; exact he.symm
  ·rfl
 ·exact ferr_zero fun e he => by
   obtain ⟨c, hc, rfl⟩ := List.mem_map.1 he
   exact h.fine c (List.mem_append_left _ hc)
theorem Split.parts : (∀ x ∈ b.instrs, x.check = 0) ∧ b.last.check ((q ++ [b]).map (·.label)) = 0 := by
 have hf := h.fine b (by simp)
 unfold blockErr at hf
 rw [h.phis, List.map_nil, List.nil_append, ferr_append] at hf
 have key : ∀ l : List Int, ferr l = 0 → ∀ e ∈ l, e = 0 := by
  intro l
  induction l with
  | nil => simp
  | cons e l ih =>
    intro hl e' he'
    simp only [ferr] at hl
    split at hl
    ·rename_i h0
     rcases List.mem_cons.1 he' with rfl | he'
     ·exact h0
     ·exact ih hl e' he'
    ·rename_i h0; exact absurd hl h0
 split at hf
 ·rename_i h0
  refine ⟨fun x hx => key _ h0 _ (List.mem_map_of_mem hx), key _ hf _ (by simp)⟩
 ·rename_i h0; exact absurd hf h0
theorem Split.add (x : Instr) : check (q ++ [{ b with instrs := x :: b.instrs }]) = x.check := by
 have hi := h.ilen
 have hp := h.phis
 rw [h.turn (b' := { b with instrs := x :: b.instrs }) rfl (by simp [count, hp]; omega)]
 unfold blockErr
 simp only [hp, List.map_nil, List.nil_append, List.map_cons, List.cons_append, ferr]
 split
 ·rename_i h0
  rw [h0]
  exact ferr_zero fun e he => by
   rcases List.mem_append.1 he with he | he
   ·obtain ⟨y, hy, rfl⟩ := List.mem_map.1 he
    exact h.parts.1 y hy
   ·rw [List.mem_singleton.1 he]; exact h.parts.2
 ·rfl
theorem Split.last (l : Last) : check (q ++ [{ b with last := l }]) = l.check ((q ++ [b]).map (·.label)) := by
 have hi := h.ilen
 have hp := h.phis
 rw [h.turn (b' := { b with last := l }) rfl (by simp [count, hp]; omega)]
 unfold blockErr
 simp only [hp, List.map_nil, List.nil_append]
 rw [ferr_append, if_pos (ferr_zero fun e he => by
  obtain ⟨y, hy, rfl⟩ := List.mem_map.1 he
  exact h.parts.1 y hy)]
 simp only [ferr]
 split
 ·rename_i h0; exact h0.symm
 ·rfl
theorem Split.many (l : List Instr) (hl : l.length = 4000) : check (q ++ [{ b with instrs := l }]) = 3 := by
 have hq := h.qlen
 unfold check
 have h1 := count_nonneg q
 have h2 : 4000 < count (q ++ [{ b with instrs := l }]) := by
  rw [count_append]
  have : count [{ b with instrs := l }] = (l.length : Int) + b.phis.length + 1 := by simp [count]
  rw [this]; omega
 rw [if_neg (by simp; omega), if_pos h2]
theorem Split.label (n : Int) (hn : n < 0 ∨ 99999 < n) : check (q ++ [{ b with label := n }]) = 2 := by
 obtain ⟨h1, h2⟩ := h.lens
 have hd := h.dup
 rw [dupGo_append] at hd
 have hdq : dupGo [] q = 0 := by
  split at hd
  ·assumption
  ·rename_i h0; exact absurd hd h0
 have h3 : dupGo [] (q ++ [{ b with label := n }]) = 2 := by
  rw [dupGo_append, if_pos hdq, dupGo, if_pos (by simp only; omega)]
 have h4 : count (q ++ [{ b with label := n }]) = count (q ++ [b]) := by simp [count]
 unfold check
 rw [if_neg (by simp; omega), if_neg (by omega), if_neg (by rw [h3]; decide), h3]
theorem Split.far : (Last.mk 0 0 77777 0).check ((q ++ [b]).map (·.label)) = 9 := by
 have : 77777 ∉ (q ++ [b]).map (·.label) := fun hm => by have := h.lab _ hm; omega
 unfold Last.check
 rw [if_neg (by decide), if_neg (by decide), if_neg (by decide)]
 show lchk _ [77777] = 9
 rw [lchk, if_neg this]
theorem Split.two : (Phi.mk 0 [b.label, b.label] [0, 0]).check ((q ++ [b]).map (·.label)) = 8 := by
 have : b.label ∈ (q ++ [b]).map (·.label) := by simp
 unfold Phi.check
 rw [if_neg (by simp), if_neg (by simp only; decide), pchk, if_pos this, if_neg (by simp), if_neg (by decide), pchk, if_pos this, if_pos (by simp)]
end
end Go.Proofs.YtlpdlohikfkjnaaDoor.Sh
end
section
set_option linter.unusedVariables false
set_option linter.unusedSimpArgs false
set_option linter.unusedSectionVars false
set_option maxRecDepth 100000
namespace Go.Proofs.YtlpdlohikfkjnaaDoor.Sh
open Go Go.AM Go.Proofs
theorem rsl_all {α : Type} {A : Nat → Prop} {st : St} {s : Nat} {R : List Value → α → Prop} {p : α → Prop} {v : Value} {l : List α} (h : RSl A st s (fun cs x => R cs x ∧ p x) v l) : ∀ x ∈ l, p x := by
 rcases h with ⟨rfl, _⟩ | ⟨b, o, xs, rfl, h2, h3, h4, h5⟩
 ·simp
 ·intro x hx
  obtain ⟨i, hi⟩ := List.mem_iff_getElem?.1 hx
  exact (h5 i x hi).2
theorem cells_SBlock : pg.cellsOf 27 = 5 := by kernel_rfl
theorem one_Lines : pg.cellsOf 25 = 1 := by kernel_rfl
theorem wt_SBlock {st : St} {cs : List Value} (h : WT pg st 27 cs) : ∃ b : SBlock, RSB (Bel st.next) st cs b ∧ b.Ok := by
 obtain ⟨hl, hf⟩ := h.getStruct Tryd.underlying27
 rw [cells_SBlock] at hl
 obtain ⟨a, b, c, d, e, rfl⟩ := list5 hl
 simp only [List.forall_mem_cons] at hf
 obtain ⟨h1, h2, h3, h4, h5, _⟩ := hf
 have h1 := fldS Tryd.underlying25 one_Lines h1 rfl
 obtain ⟨l, hr, _⟩ := h1.rsl (R := fun cs x => RLine cs x ∧ x.Ok) Tryd.underlying25 cells_Line fun cs hc => by
  obtain ⟨x, hx, hok⟩ := wt_Line hc
  exact ⟨x, hx, hok⟩
 obtain ⟨x2, rfl, w2⟩ := fld Tryd.underlying5 one5 h2 rfl
 obtain ⟨x3, rfl, w3⟩ := fld Tryd.underlying5 one5 h3 rfl
 obtain ⟨x4, rfl, w4⟩ := fld Tryd.underlying5 one5 h4 rfl
 obtain ⟨x5, rfl, w5⟩ := fld Tryd.underlying5 one5 h5 rfl
 exact ⟨⟨l, x2, x3, x4, x5⟩, ⟨a, rfl, hr.mono (fun _ h => h) (Agree.refl _ _) fun _ _ _ h => h.1⟩, ⟨rsl_all hr, bounds_u8 w2, bounds_u8 w3, bounds_u8 w4, bounds_u8 w5⟩⟩
end Go.Proofs.YtlpdlohikfkjnaaDoor.Sh
end
