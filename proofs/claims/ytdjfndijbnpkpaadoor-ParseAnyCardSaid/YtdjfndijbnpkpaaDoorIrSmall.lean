/-
  Small programs: what they are; Light, Program.
-/
import Derived.Test.YtdjfndijbnpkpaaDoorIrInstrs0
import Derived.Test.YtdjfndijbnpkpaaDoorIrRep
import Derived.Test.YtdjfndijbnpkpaaDoorShB
set_option linter.unusedVariables false
set_option linter.unusedSimpArgs false
set_option linter.unusedSectionVars false
set_option maxRecDepth 100000
namespace Go.Proofs.YtdjfndijbnpkpaaDoor.Sh
open Go Go.AM Go.Proofs
structure SBlock where
 lines : List Line
 e : Int
 a : Int
 yes : Int
 no : Int
structure Small where
 regs : Int
 bare : Bool
 blocks : List SBlock
structure SBlock.Ok (b : SBlock) : Prop where
 lines : ∀ x ∈ b.lines, x.Ok
 e : 0 ≤ b.e ∧ b.e ≤ 255
 a : 0 ≤ b.a ∧ b.a ≤ 255
 yes : 0 ≤ b.yes ∧ b.yes ≤ 255
 no : 0 ≤ b.no ∧ b.no ≤ 255
structure Small.Ok (s : Small) : Prop where
 regs : 0 ≤ s.regs ∧ s.regs ≤ 255
 blocks : ∀ b ∈ s.blocks, b.Ok
def Small.light (s : Small) : Bool := s.blocks.all (fun b => decide (b.lines.length ≤ 10)) && decide (s.blocks.length ≤ 8)
def plabel (i : Int) : Int := 3 * i + 7 * (i % 2)
def ends : List Int := [0, 1, 1, 0, 1, 2, 1, 3]
def SBlock.last (b : SBlock) (regs n : Int) : Last := Last.only ⟨ends.getD (b.e % 8).toNat 0, b.a % regs, plabel (b.yes % n), plabel (b.no % n)⟩
def Small.nregs (s : Small) : Int := 1 + s.regs % 6
def Small.n (s : Small) : Nat := max s.blocks.length 1
def Small.firsts (s : Small) : List Instr := (List.range s.nregs.toNat).map fun (r : Nat) => ⟨0, 0, r, 0, 0, (r : Int) * r, 0⟩
def Small.block (s : Small) (i : Nat) : Block :=
 { label := plabel i, phis := [],
   instrs := (if i = 0 ∧ s.bare = false then s.firsts else []) ++ (match s.blocks[i]? with | some b => b.lines.map (·.instr s.nregs) | none => []),
   last := match s.blocks[i]? with | some b => b.last s.nregs s.n | none => if s.bare then ⟨3, 0, 0, 0⟩ else ⟨2, 0, 0, 0⟩ }
def Small.prog (s : Small) : Prog := (List.range s.n).map s.block
def RLine (cs : List Value) (x : Line) : Prop := cs = cLine x
def RSB (A : Nat → Prop) (st : St) (cs : List Value) (b : SBlock) : Prop := ∃ vl, cs = [vl, U b.e, U b.a, U b.yes, U b.no] ∧ RSl A st 7 RLine vl b.lines
def RSmall (A : Nat → Prop) (st : St) (v : Value) (s : Small) : Prop := ∃ vb, v = .agg #[U s.regs, B s.bare, vb] ∧ RSl A st 5 (RSB A st) vb s.blocks
theorem RSB.mono {A : Nat → Prop} {st st' : St} {cs : List Value} {b : SBlock} (h : RSB A st cs b) (hE : Agree A st st') : RSB A st' cs b := by
 obtain ⟨vl, h1, h2⟩ := h
 exact ⟨vl, h1, h2.mono (fun _ h => h) hE (fun _ _ _ h => h)⟩
theorem RSmall.mono {A : Nat → Prop} {st st' : St} {v : Value} {s : Small} (h : RSmall A st v s) (hE : Agree A st st') : RSmall A st' v s := by
 obtain ⟨vb, h1, h2⟩ := h
 exact ⟨vb, h1, RSl.mono h2 (fun _ h => h) hE (fun _ _ _ h => h.mono hE)⟩
variable {K : Ctx} (hF : Fix pgF K)
include hF
theorem Light_loop {J} (hJ : IsJ K (retK refinerylaw03_Small_Light_c.results) J) {A : Nat → Prop} {st0 : St} {r : Int} {br : Bool} {vb : Value} {l : List SBlock} (hA : ∀ id, A id → id < st0.next) (hl : RSl A st0 5 (RSB A st0) vb l) (hn : l.length < 2 ^ 62) (d : Nat) : ∀ (i : Nat) (st : St) (res : Bool), i + d = l.length → Ext st0 st →
 res = ((l.drop i).all (fun b => decide (b.lines.length ≤ 10)) && decide (l.length ≤ 8)) → Ok (refinerylaw03_Small_Light_l0 J (.agg #[U r, B br, vb]) vb (I l.length) (I i) st) fun q => q.1 = B res ∧ Ext st0 q.2 := by
 induction d with
 | zero =>
   intro i st res hi hE hres
   refine refinerylaw03_Small_Light_l0_of hF hJ ?_
   rw [refinerylaw03_Small_Light_l0_eq]
   have : i = l.length := by omega
   subst this
   have h8 : decide ((l.length : Int) ≤ 8) = decide (l.length ≤ 8) := by by_cases h : l.length ≤ 8 <;> simp [h] <;> omega
   rw [List.drop_length, List.all_nil, Bool.true_and] at hres
   subst hres
   simp [refinerylaw03_Small_Light_j1_eq hJ, hl.len, hE, h8]
 | succ d ih =>
   intro i st res hi hE hres
   refine refinerylaw03_Small_Light_l0_of hF hJ ?_
   rw [refinerylaw03_Small_Light_l0_eq]
   have hlt : i < l.length := by omega
   have hlt' : (i : Int) < l.length := by omega
   obtain ⟨b, o, cs, hix, hld, ⟨vl, rfl, hvl⟩, -⟩ := RSl.at hl (List.getElem?_eq_getElem hlt)
   rw [List.drop_eq_getElem_cons hlt, List.all_cons] at hres
   by_cases h10 : l[i].lines.length ≤ 10
   ·have h10' : ¬ (10 : Int) < l[i].lines.length := by omega
    simp [hlt', refinerylaw03_Small_Light_j0_eq hJ, refinerylaw03_Small_Light_j2_eq hJ, hix, hld _ (hE.agree hA), hvl.cell, Res.need, hvl.len, h10']
    rw [wrap_id (n := (i : Int) + 1) (by omega)]
    rw [decide_eq_true h10, Bool.true_and] at hres
    exact ih (i + 1) _ res (by omega) hE.bump hres
   ·have h10' : (10 : Int) < l[i].lines.length := by omega
    rw [decide_eq_false h10, Bool.false_and, Bool.false_and] at hres
    subst hres
    simp [hlt', refinerylaw03_Small_Light_j0_eq hJ, hix, hld _ (hE.agree hA), hvl.cell, Res.need, hvl.len, h10', hE.bump]
theorem Light_ok {A : Nat → Prop} {st : St} {v : Value} {s : Small} (hA : ∀ id, A id → id < st.next) (h : RSmall A st v s) (hn : s.blocks.length < 2 ^ 62) : Ok (K.go (.call n_refinerylaw03_Small_Light [v]) st) fun r => r.1 = B s.light ∧ Ext st r.2 := by
 obtain ⟨vb, rfl, hb⟩ := h
 refine refinerylaw03_Small_Light_of hF fun J hJ => ?_
 rw [refinerylaw03_Small_Light_eq]
 have hE : Ext st st.bump := by simp
 have hb' := RSl.mono hb (fun _ h => h) (hE.agree hA) (R' := RSB A st.bump) (fun _ _ _ h => h.mono (hE.agree hA))
 simp [hb.len]
 refine (Light_loop hF hJ (fun id h => Nat.lt_succ_of_lt (hA id h)) hb' hn s.blocks.length 0 _ s.light (by omega) (Ext.refl _) rfl).mono fun q hq => ?_
 exact ⟨hq.1, hE.trans hq.2⟩
theorem Label_eq (i : Int) (st : St) (hi : 0 ≤ i ∧ i < 2 ^ 32) : K.go (.call n_refinerylaw03_Label [I i]) st = .ok (I (plabel i), st) := by
 refine Ok.eq (refinerylaw03_Label_of hF fun J hJ => ?_)
 rw [refinerylaw03_Label_eq]
 have h2 : i.tmod 2 = i % 2 := Int.tmod_eq_emod_of_nonneg hi.1
 simp [h2, wrap_id (n := 3 * i) (by omega), wrap_id (n := 7 * (i % 2)) (by omega), wrap_id (n := 3 * i + 7 * (i % 2)) (by omega), plabel]
theorem BLast_ok (b : SBlock) (hb : b.Ok) (vl : Value) (hvl : cellOk vl = true) (regs n : Int) (hr : 1 ≤ regs ∧ regs ≤ 255) (hn : 1 ≤ n ∧ n ≤ 255) (st : St) :
 Ok (K.go (.call n_refinerylaw03_Block_Last [.agg #[vl, U b.e, U b.a, U b.yes, U b.no], I regs, I n]) st) fun r => r.1 = vL (b.last regs n) ∧ Ext st r.2 := by
 refine refinerylaw03_Block_Last_of hF fun J hJ => ?_
 rw [refinerylaw03_Block_Last_eq]
 obtain ⟨_, h1, h2, h3, h4⟩ := hb
 have hn0 : n ≠ 0 := by omega
 have hr0 : regs ≠ 0 := by omega
 have e1 := Int.tmod_eq_emod_of_nonneg (b := n) h3.1
 have e2 := Int.tmod_eq_emod_of_nonneg (b := n) h4.1
 have e3 := Int.tmod_eq_emod_of_nonneg (b := 8) h1.1
 have e4 := Int.tmod_eq_emod_of_nonneg (b := regs) h2.1
 have b1 := Int.emod_nonneg b.yes hn0
 have b2 := Int.emod_lt_of_pos b.yes (show 0 < n by omega)
 have b3 := Int.emod_nonneg b.no hn0
 have b4 := Int.emod_lt_of_pos b.no (show 0 < n by omega)
 simp [hn0, hr0, e1, e2, wrap_id (n := b.yes) (by omega), wrap_id (n := b.no) (by omega), Label_eq hF _ _ (show 0 ≤ b.yes % n ∧ b.yes % n < 2 ^ 32 by omega), Label_eq hF _ _ (show 0 ≤ b.no % n ∧ b.no % n < 2 ^ 32 by omega), Res.need]
 have hlit : ∀ s : St, sLit 1 8 [U 0, U 0, U 0, U 0, U 0, U 0, U 0, U 0] [(0, 1, U 0), (1, 1, U 1), (2, 1, U 1), (3, 1, U 0), (4, 1, U 1), (5, 1, U 2), (6, 1, U 1), (7, 1, U 3)] s = .ok (Sl s.next 0 8 1, s.alloc (.cells [U 0, U 1, U 1, U 0, U 1, U 2, U 1, U 3])) := fun s => rfl
 have h8 : b.e % 8 = 0 ∨ b.e % 8 = 1 ∨ b.e % 8 = 2 ∨ b.e % 8 = 3 ∨ b.e % 8 = 4 ∨ b.e % 8 = 5 ∨ b.e % 8 = 6 ∨ b.e % 8 = 7 := by omega
 rcases h8 with h | h | h | h | h | h | h | h
 all_goals
  simp [hlit, e3, h, sIxA, index, Res.need, load1_def, sStays, sameVal, sameOne, sameCell, idOf, e4, hr0, wrap_id (n := b.a) (by omega), sBuild, fillL]
  refine (LOnly_ok hF ⟨_, b.a % regs, plabel (b.yes % n), plabel (b.no % n)⟩ _).call fun s hE => ?_
  have hbl : b.last regs n = Last.only ⟨ends.getD (b.e % 8).toNat 0, b.a % regs, plabel (b.yes % n), plabel (b.no % n)⟩ := rfl
  rw [hbl, h]
  simp [vL, Res.need, oneOf, ends]
  exact Ext.trans (by simp) hE
omit hF
structure PI (st0 st : St) (q : Prog) (vp : Value) (ids : List Nat) (vi : Value) (l : List Instr) (is : List Nat) : Prop where
 ext : Ext st0 st
 prog : PProg st vp q ids
 ins : RepSl 7 PInstr st vi l is
 nd : (ids ++ is).Nodup
 lo : ∀ id ∈ ids ++ is, st0.next ≤ id ∧ id < st.next
theorem PI.mono {st0 st st' : St} {q : Prog} {vp vi : Value} {ids is : List Nat} {l : List Instr} (h : PI st0 st q vp ids vi l is) (hE : Ext st st') : PI st0 st' q vp ids vi l is where
 ext := h.ext.trans hE
 prog := h.prog.frame fun id hi => hE.get id (h.lo id (List.mem_append_left _ hi)).2
 ins := h.ins.frame PInstr.fr fun id hi => hE.get id (h.lo id (List.mem_append_right _ hi)).2
 nd := h.nd
 lo := fun id hi => ⟨(h.lo id hi).1, Nat.lt_of_lt_of_le (h.lo id hi).2 hE.next⟩
theorem PI.push {st0 st : St} {q : Prog} {vp vi : Value} {ids is : List Nat} {l : List Instr} (h : PI st0 st q vp ids vi l is) (hro : st0.ro ≤ st0.next) (x : Instr) (hb : l.length < 1000) :
 ∃ (vi' : Value) (st' : St) (is' : List Nat), sAppend 7 48 vi (Sl st.next 0 1 7) (st.alloc (.cells (cI x))) = .ok (vi', st') ∧ PI st0 st' q vp ids vi' (l ++ [x]) is' := by
 obtain ⟨v', st', is', r, h1, h2, h3, h4, h5, h6⟩ := RepSl.push (bytes := 48) PInstr.fr h.ins (by omega) (x := x) (cs := cI x) (is := []) ⟨rfl, rfl⟩ rfl rfl (fun id hi => (h.lo id (List.mem_append_right _ (by simpa using hi))).2) (fun id hi => by
  rw [h.ext.ro]; exact Nat.le_trans hro (h.lo id (List.mem_append_right _ hi)).1) (by simpa using (List.nodup_append.1 h.nd).2.1) (by omega)
 have hdis : ∀ id ∈ ids, id ∉ is := fun id hi hj => (List.nodup_append.1 h.nd).2.2 id hi id hj rfl
 refine ⟨v', st', is', r, ext_of h.ext (Nat.le_of_lt h5) h6 (fun id hi => (h.lo id (List.mem_append_right _ hi)).1) h4, h.prog.frame fun id hi => h4 id (h.lo id (List.mem_append_left _ hi)).2 (hdis id hi), h1,
  nodup_swap h.nd h2 (fun id hi => (h3 id hi).imp (fun k => k) fun k => k.elim (fun k => by cases k) fun k => k.1) (fun id hi => (h.lo id (List.mem_append_left _ hi)).2), fun id hi => ?_⟩
 rcases List.mem_append.1 hi with hi | hi
 ·exact ⟨(h.lo id (List.mem_append_left _ hi)).1, Nat.lt_trans (h.lo id (List.mem_append_left _ hi)).2 h5⟩
 ·rcases h3 id hi with k | k | k
  ·exact ⟨(h.lo id (List.mem_append_right _ k)).1, Nat.lt_trans (h.lo id (List.mem_append_right _ k)).2 h5⟩
  ·cases k
  ·exact ⟨Nat.le_trans h.ext.next k.1, k.2⟩
theorem PI.block {st0 st : St} {q : Prog} {vp vi : Value} {ids is : List Nat} {l : List Instr} (h : PI st0 st q vp ids vi l is) (hro : st0.ro ≤ st0.next) (n : Int) (m : Last) (hb : q.length < 1000) :
 ∃ (vp' : Value) (st' : St) (ids' : List Nat), sAppend 7 88 vp (Sl st.next 0 1 7) (st.alloc (.cells (cB n (.slice none 0 0) vi m))) = .ok (vp', st') ∧ PI st0 st' (q ++ [⟨n, [], l, m⟩]) vp' ids' (.slice none 0 0) [] [] := by
 have hck : (cB n (.slice none 0 0) vi m).all cellOk = true := by simp [cB, h.ins.cell]
 obtain ⟨v', st', ids', r, h1, h2, h3, h4, h5, h6⟩ := RepSl.push (bytes := 88) PBlock.fr h.prog (by omega) (x := ⟨n, [], l, m⟩) (cs := cB n (.slice none 0 0) vi m) (is := is) ⟨_, _, [], is, rfl, RepSl.nil _, h.ins, rfl⟩ rfl hck (fun id hi => (h.lo id hi).2) (fun id hi => by
  rw [h.ext.ro]; exact Nat.le_trans hro (h.lo id (List.mem_append_left _ hi)).1) h.nd (by omega)
 refine ⟨v', st', ids', r, ext_of h.ext (Nat.le_of_lt h5) h6 (fun id hi => (h.lo id (List.mem_append_left _ hi)).1) h4, h1, RepSl.nil _, by simpa using h2, fun id hi => ?_⟩
 rw [List.append_nil] at hi
 rcases h3 id hi with k | k | k
 ·exact ⟨(h.lo id (List.mem_append_left _ k)).1, Nat.lt_trans (h.lo id (List.mem_append_left _ k)).2 h5⟩
 ·exact ⟨(h.lo id (List.mem_append_right _ k)).1, Nat.lt_trans (h.lo id (List.mem_append_right _ k)).2 h5⟩
 ·exact ⟨Nat.le_trans h.ext.next k.1, k.2⟩
section
variable {J : JT (Value × St)} (hJ : IsJ K (retK refinerylaw03_Small_Program_c.results) J) {A : Nat → Prop} {st0 : St} (hro : st0.ro ≤ st0.next) {s : Small} (hs : s.Ok) (hl : s.light = true) {vb : Value} (hA : ∀ id, A id → id < st0.next) (hb : RSl A st0 5 (RSB A st0) vb s.blocks) {Q : Value × St → Prop}
include hF hJ hro hs hl hA hb
omit hF hJ hro hA hb in
theorem small_facts : s.blocks.length ≤ 8 ∧ (∀ b ∈ s.blocks, b.lines.length ≤ 10) ∧ 1 ≤ s.nregs ∧ s.nregs ≤ 6 ∧ 1 ≤ s.n ∧ s.n ≤ 8 := by
 unfold Small.light at hl
 rw [Bool.and_eq_true, List.all_eq_true] at hl
 obtain ⟨h1, h2⟩ := hl
 have h2 : s.blocks.length ≤ 8 := of_decide_eq_true h2
 have := hs.regs
 exact ⟨h2, fun b hb => of_decide_eq_true (h1 b hb), by unfold Small.nregs; omega, by unfold Small.nregs; omega, by unfold Small.n; omega, by unfold Small.n; omega⟩
theorem SP_j4 {v2 : Value} {i : Nat} (hi : i < s.n) {st : St} {q : Prog} {vp vi : Value} {ids is : List Nat} {l : List Instr} {m : Last} (h : PI st0 st q vp ids vi l is) (hq : q.length < 1000)
 (hnext : ∀ (st' : St) (vp' : Value) (ids' : List Nat), PI st0 st' (q ++ [⟨plabel i, [], l, m⟩]) vp' ids' (.slice none 0 0) [] [] → Ok (refinerylaw03_Small_Program_l0 J (.agg #[U s.regs, B s.bare, vb]) v2 (I s.nregs) (I s.n) (.agg #[vp']) (I s.n) (I ((i + 1 : Nat) : Int)) st') Q) :
 Ok (refinerylaw03_Small_Program_j4 J (.agg #[U s.regs, B s.bare, vb]) v2 (I s.nregs) (I s.n) (.agg #[vp]) (vB (plabel i) (.slice none 0 0) vi m) (I s.n) (I i) st) Q := by
 obtain ⟨f1, f2, f3, f4, f5, f6⟩ := small_facts hs hl
 obtain ⟨vp', st', ids', r, h'⟩ := h.block hro (plabel i) m hq
 rw [refinerylaw03_Small_Program_j4_eq hJ]
 have hu : sUpd 1 0 (.agg #[vp]) vp' st' = .ok (.agg #[vp'], st') := (sUpd_one 1 0 [vp] st' h'.prog.tup h'.prog.cells h'.prog.cell).trans (by simp [Res.need])
 simp [r, hu, refinerylaw03_Small_Program_j8_eq hJ]
 rw [wrap_id (n := (i : Int) + 1) (by omega)]
 exact hnext st' vp' ids' h'
theorem SP_l2 {v2 : Value} {i : Nat} (hi : i < s.blocks.length) {q : Prog} {vp : Value} {ids : List Nat} (hq : q.length < 1000) {vl : Value} (hvl : RSl A st0 7 RLine vl s.blocks[i].lines) {l0 : List Instr} {m0 : Last} (hl0 : l0.length ≤ 6)
 (hnext : ∀ (st' : St) (vp' : Value) (ids' : List Nat), PI st0 st' (q ++ [⟨plabel i, [], l0 ++ s.blocks[i].lines.map (·.instr s.nregs), s.blocks[i].last s.nregs s.n⟩]) vp' ids' (.slice none 0 0) [] [] → Ok (refinerylaw03_Small_Program_l0 J (.agg #[U s.regs, B s.bare, vb]) v2 (I s.nregs) (I s.n) (.agg #[vp']) (I s.n) (I ((i + 1 : Nat) : Int)) st') Q)
 (d : Nat) : ∀ (k : Nat) (st : St) (vi : Value) (is : List Nat) (l : List Instr), k + d = s.blocks[i].lines.length → l = l0 ++ (s.blocks[i].lines.take k).map (·.instr s.nregs) → PI st0 st q vp ids vi l is →
   Ok (refinerylaw03_Small_Program_l2 J (.agg #[U s.regs, B s.bare, vb]) v2 (I s.nregs) (I s.n) (.agg #[vp]) (I i) (vB (plabel i) (.slice none 0 0) vi m0) (I s.n) (I i) vl (I s.blocks[i].lines.length) (I k) st) Q := by
 obtain ⟨f1, f2, f3, f4, f5, f6⟩ := small_facts hs hl
 have f7 := f2 _ (List.getElem_mem hi)
 have hbo := hs.blocks _ (List.getElem_mem hi)
 induction d with
 | zero =>
   intro k st vi is l hk hll h
   refine refinerylaw03_Small_Program_l2_of hF hJ ?_
   rw [refinerylaw03_Small_Program_l2_eq]
   have : k = s.blocks[i].lines.length := by omega
   subst this
   rw [List.take_length] at hll
   obtain ⟨b, o, cs, hix, hld, ⟨vl2, rfl, hvl2⟩, -⟩ := RSl.at hb (List.getElem?_eq_getElem hi)
   simp [refinerylaw03_Small_Program_j7_eq hJ, hix, hld _ (h.ext.agree hA)]
   refine (BLast_ok hF s.blocks[i] hbo vl2 hvl2.cell s.nregs s.n (by omega) (by omega) st).call fun s1 hE1 => ?_
   simp
   subst hll
   exact SP_j4 hF hJ hro hs hl hA hb (by unfold Small.n; omega) (h.mono hE1) hq hnext
 | succ d ih =>
   intro k st vi is l hk hll h
   refine refinerylaw03_Small_Program_l2_of hF hJ ?_
   rw [refinerylaw03_Small_Program_l2_eq]
   have hlt : k < s.blocks[i].lines.length := by omega
   have hlt' : (k : Int) < s.blocks[i].lines.length := by omega
   obtain ⟨b, o, cs, hix, hld, rfl, -⟩ := hvl.at (List.getElem?_eq_getElem hlt)
   have hc : ∀ x : Line, sUpd 7 0 (.agg #[U 0, U 0, U 0, U 0, U 0, U 0, .int .i16 0]) (.agg (cLine x).toArray) st.bump = .ok (.agg (cLine x).toArray, st.bump) := fun x => by simp [cLine, Res.need]
   have hf : ∀ (x : Line) s, sField (some 7) 0 (.agg (cLine x).toArray) s = .ok (.agg (cLine x).toArray, s) := fun x s => rfl
   have hlen : l.length < 1000 := by rw [hll]; simp; omega
   simp [hlt', refinerylaw03_Small_Program_j6_eq hJ, hix, hld _ (h.ext.agree hA), hc, hf]
   refine (LineInstr_ok hF _ (hbo.lines _ (List.getElem_mem hlt)) s.nregs (by omega) _).call fun s1 hE1 => ?_
   have h1 := h.mono (Ext.trans (by simp) hE1)
   obtain ⟨vi', st', is', r, h'⟩ := h1.push hro (s.blocks[i].lines[k].instr s.nregs) hlen
   have hsv : sameVal vi vi = true := by rcases h1.ins with ⟨_, _, c, rfl⟩ | ⟨_, _, _, rfl, _⟩ <;> simp
   simp [hsv, Res.need, r, sUpd_vBi _ _ _ _ _ h'.ins.cell h'.ins.tup h'.ins.cells, refinerylaw03_Small_Program_j9_eq hJ]
   rw [wrap_id (n := (k : Int) + 1) (by omega)]
   refine ih (k + 1) st' vi' is' (l ++ [s.blocks[i].lines[k].instr s.nregs]) (by omega) ?_ h'
   rw [hll, List.take_succ_eq_append_getElem hlt, List.map_append, List.append_assoc]
   rfl
theorem SP_j2 {v2 : Value} {i : Nat} (hi : i < s.n) {st : St} {q : Prog} {vp vi : Value} {ids is : List Nat} {l0 : List Instr} (h : PI st0 st q vp ids vi l0 is) (hq : q.length < 1000) (hl0 : l0.length ≤ 6)
 (hnext : ∀ (st' : St) (vp' : Value) (ids' : List Nat), PI st0 st' (q ++ [⟨plabel i, [], l0 ++ (match s.blocks[i]? with | some b => b.lines.map (·.instr s.nregs) | none => []), match s.blocks[i]? with | some b => b.last s.nregs s.n | none => if s.bare then ⟨3, 0, 0, 0⟩ else ⟨2, 0, 0, 0⟩⟩]) vp' ids' (.slice none 0 0) [] [] →
   Ok (refinerylaw03_Small_Program_l0 J (.agg #[U s.regs, B s.bare, vb]) v2 (I s.nregs) (I s.n) (.agg #[vp']) (I s.n) (I ((i + 1 : Nat) : Int)) st') Q) :
 Ok (refinerylaw03_Small_Program_j2 J (.agg #[U s.regs, B s.bare, vb]) v2 (I s.nregs) (I s.n) (.agg #[vp]) (I i) (vB (plabel i) (.slice none 0 0) vi ⟨2, 0, 0, 0⟩) (I s.n) (I i) st) Q := by
 rw [refinerylaw03_Small_Program_j2_eq hJ]
 by_cases hlt : i < s.blocks.length
 ·have hlt' : (i : Int) < s.blocks.length := by omega
  obtain ⟨b, o, cs, hix, hld, ⟨vl, rfl, hvl⟩, _, _, hl1⟩ := RSl.at hb (List.getElem?_eq_getElem hlt)
  have h0 : st.load1 b o = .ok vl := hl1 st 0 vl (h.ext.agree hA) rfl
  rw [List.getElem?_eq_getElem hlt] at hnext
  simp [hb.len, hlt', hix, h0, hvl.len]
  exact SP_l2 hF hJ hro hs hl hA hb hlt hq hvl hl0 hnext s.blocks[i].lines.length 0 st vi is l0 (by omega) (by simp) h
 ·have hlt' : ¬ (i : Int) < s.blocks.length := by omega
  rw [List.getElem?_eq_none (by omega)] at hnext
  simp only [List.append_nil] at hnext
  cases hbr : s.bare with
  | true =>
    rw [hbr, if_pos rfl] at hnext
    have ht : Value.agg #[U 3, I 0, I 0, I 0] = vL ⟨3, 0, 0, 0⟩ := rfl
    simp [hb.len, hlt', sBuild, fillL, Res.need]
    rw [ht]
    simp
    have := SP_j4 hF hJ hro hs hl hA hb (v2 := v2) hi h hq (m := ⟨3, 0, 0, 0⟩) (Q := Q)
    rw [hbr] at this
    exact this hnext
  | false =>
    rw [hbr, if_neg (by decide)] at hnext
    simp [hb.len, hlt']
    have := SP_j4 hF hJ hro hs hl hA hb (v2 := v2) hi h hq (m := ⟨2, 0, 0, 0⟩) (Q := Q)
    rw [hbr] at this
    exact this hnext
theorem SP_l1 {v2 : Value} {q : Prog} {vp : Value} {ids : List Nat} (hq : q.length < 1000)
 (hcont : ∀ (st : St) (vi : Value) (is : List Nat), PI st0 st q vp ids vi s.firsts is → Ok (refinerylaw03_Small_Program_j2 J (.agg #[U s.regs, B s.bare, vb]) v2 (I s.nregs) (I s.n) (.agg #[vp]) (I 0) (vB (plabel 0) (.slice none 0 0) vi ⟨2, 0, 0, 0⟩) (I s.n) (I 0) st) Q)
 (d : Nat) : ∀ (k : Nat) (st : St) (vi : Value) (is : List Nat), k + d = s.nregs.toNat → PI st0 st q vp ids vi (s.firsts.take k) is →
   Ok (refinerylaw03_Small_Program_l1 J (.agg #[U s.regs, B s.bare, vb]) v2 (I s.nregs) (I s.n) (.agg #[vp]) (I 0) (vB (plabel 0) (.slice none 0 0) vi ⟨2, 0, 0, 0⟩) (I s.n) (I 0) (I s.nregs) (I k) st) Q := by
 obtain ⟨f1, f2, f3, f4, f5, f6⟩ := small_facts hs hl
 have hfl : s.firsts.length = s.nregs.toNat := by simp [Small.firsts]
 induction d with
 | zero =>
   intro k st vi is hk h
   refine refinerylaw03_Small_Program_l1_of hF hJ ?_
   rw [refinerylaw03_Small_Program_l1_eq]
   have hk' : ¬ (k : Int) < s.nregs := by omega
   rw [List.take_of_length_le (by omega)] at h
   simp [hk']
   exact hcont st vi is h
 | succ d ih =>
   intro k st vi is hk h
   refine refinerylaw03_Small_Program_l1_of hF hJ ?_
   rw [refinerylaw03_Small_Program_l1_eq]
   have hk' : (k : Int) < s.nregs := by omega
   have hlt : k < s.firsts.length := by omega
   have hlen : (s.firsts.take k).length < 1000 := by simp; omega
   have hx : s.firsts[k] = ⟨0, 0, k, 0, 0, (k : Int) * k, 0⟩ := by simp [Small.firsts]
   obtain ⟨vi', st', is', r, h'⟩ := h.push hro ⟨0, 0, k, 0, 0, (k : Int) * k, 0⟩ hlen
   have hkk : 0 ≤ (k : Int) * k ∧ (k : Int) * k ≤ 36 := by
    have : k ≤ 5 := by omega
    have h1 : k = 0 ∨ k = 1 ∨ k = 2 ∨ k = 3 ∨ k = 4 ∨ k = 5 := by omega
    rcases h1 with rfl | rfl | rfl | rfl | rfl | rfl <;> decide
   have ht : Value.agg #[U 0, U 0, I k, I 0, I 0, I ((k : Int) * k), I 0] = vI ⟨0, 0, k, 0, 0, (k : Int) * k, 0⟩ := rfl
   simp [hk', refinerylaw03_Small_Program_j3_eq hJ, wrap_id (n := (k : Int) * k) (by omega), sBuild, fillL, Res.need]
   rw [ht]
   simp [r, sUpd_vBi _ _ _ _ _ h'.ins.cell h'.ins.tup h'.ins.cells, refinerylaw03_Small_Program_j5_eq hJ]
   rw [wrap_id (n := (k : Int) + 1) (by omega)]
   refine ih (k + 1) st' vi' is' (by omega) ?_
   rw [List.take_succ_eq_append_getElem hlt, hx]
   exact h'
theorem SP_l0 {v2 : Value} (hfin : ∀ (st : St) (vp : Value) (ids : List Nat), PI st0 st s.prog vp ids (.slice none 0 0) [] [] → Ok (refinerylaw03_Small_Program_j1 J v2 (.agg #[vp]) st) Q)
 (d : Nat) : ∀ (i : Nat) (st : St) (vp : Value) (ids : List Nat), i + d = s.n → PI st0 st ((List.range i).map s.block) vp ids (.slice none 0 0) [] [] →
   Ok (refinerylaw03_Small_Program_l0 J (.agg #[U s.regs, B s.bare, vb]) v2 (I s.nregs) (I s.n) (.agg #[vp]) (I s.n) (I i) st) Q := by
 obtain ⟨f1, f2, f3, f4, f5, f6⟩ := small_facts hs hl
 induction d with
 | zero =>
   intro i st vp ids hi h
   refine refinerylaw03_Small_Program_l0_of hF hJ ?_
   rw [refinerylaw03_Small_Program_l0_eq]
   have : i = s.n := by omega
   subst this
   simp
   exact hfin st vp ids h
 | succ d ih =>
   intro i st vp ids hi h
   refine refinerylaw03_Small_Program_l0_of hF hJ ?_
   rw [refinerylaw03_Small_Program_l0_eq]
   have hlt' : (i : Int) < s.n := by omega
   have hlt : i < s.n := by omega
   have hq : ((List.range i).map s.block).length < 1000 := by simp; omega
   have h1 := h.mono (Ext.bump (Ext.refl st))
   have hnext : ∀ (st' : St) (vp' : Value) (ids' : List Nat), PI st0 st' ((List.range i).map s.block ++ [s.block i]) vp' ids' (.slice none 0 0) [] [] → Ok (refinerylaw03_Small_Program_l0 J (.agg #[U s.regs, B s.bare, vb]) v2 (I s.nregs) (I s.n) (.agg #[vp']) (I s.n) (I ((i + 1 : Nat) : Int)) st') Q := fun st' vp' ids' h' => by
    refine ih (i + 1) st' vp' ids' (by omega) ?_
    rw [List.range_succ, List.map_append]
    exact h'
   have ht : Value.agg #[I (plabel i), .slice none 0 0, .slice none 0 0, U 2, I 0, I 0, I 0] = vB (plabel i) (.slice none 0 0) (.slice none 0 0) ⟨2, 0, 0, 0⟩ := rfl
   simp [hlt', refinerylaw03_Small_Program_j0_eq hJ, Label_eq hF _ _ (show 0 ≤ (i : Int) ∧ (i : Int) < 2 ^ 32 by omega), sBuild, fillL, Res.need]
   rw [ht]
   cases hbr : s.bare with
   | true =>
     have hb2 : s.block i = ⟨plabel i, [], [] ++ (match s.blocks[i]? with | some b => b.lines.map (·.instr s.nregs) | none => []), match s.blocks[i]? with | some b => b.last s.nregs s.n | none => if s.bare then ⟨3, 0, 0, 0⟩ else ⟨2, 0, 0, 0⟩⟩ := by
      unfold Small.block
      rw [if_neg (by rw [hbr]; simp)]
     rw [hb2] at hnext
     have := SP_j2 hF hJ hro hs hl hA hb (v2 := v2) hlt h1 hq (by simp) hnext
     rw [hbr] at this
     by_cases h0 : i = 0 <;> simp [h0]
     ·subst h0; exact this
     ·exact this
   | false =>
     by_cases h0 : i = 0
     ·subst h0
      have hb2 : s.block 0 = ⟨plabel ((0 : Nat) : Int), [], s.firsts ++ (match s.blocks[0]? with | some b => b.lines.map (·.instr s.nregs) | none => []), match s.blocks[0]? with | some b => b.last s.nregs s.n | none => if s.bare then ⟨3, 0, 0, 0⟩ else ⟨2, 0, 0, 0⟩⟩ := by
       unfold Small.block
       rw [if_pos ⟨rfl, hbr⟩]
      rw [hb2] at hnext
      have := SP_l1 hF hJ hro hs hl hA hb (v2 := v2) (Q := Q) hq (fun st1 vi is h' => SP_j2 hF hJ hro hs hl hA hb (v2 := v2) hlt h' hq (by simp [Small.firsts]; omega) hnext) s.nregs.toNat 0 st.bump (.slice none 0 0) [] (by omega) (by simpa using h1)
      rw [hbr] at this
      simp
      exact this
     ·have hb2 : s.block i = ⟨plabel i, [], [] ++ (match s.blocks[i]? with | some b => b.lines.map (·.instr s.nregs) | none => []), match s.blocks[i]? with | some b => b.last s.nregs s.n | none => if s.bare then ⟨3, 0, 0, 0⟩ else ⟨2, 0, 0, 0⟩⟩ := by
       unfold Small.block
       rw [if_neg (fun h => h0 h.1)]
      rw [hb2] at hnext
      have := SP_j2 hF hJ hro hs hl hA hb (v2 := v2) hlt h1 hq (by simp) hnext
      rw [hbr] at this
      simp [h0]
      exact this
end
include hF
theorem Program_ok {A : Nat → Prop} {st : St} (hro : st.ro ≤ st.next) {s : Small} (hs : s.Ok) (hl : s.light = true) {v : Value} (hA : ∀ id, A id → id < st.next) (hv : RSmall A st v s) :
 Ok (K.go (.call n_refinerylaw03_Small_Program [v]) st) fun r => ∃ vp ids, r.1 = .agg #[vp] ∧ PProg r.2 vp s.prog ids ∧ ids.Nodup ∧ (∀ id ∈ ids, st.next ≤ id ∧ id < r.2.next) ∧ Ext st r.2 := by
 obtain ⟨vb, rfl, hb⟩ := hv
 obtain ⟨f1, f2, f3, f4, f5, f6⟩ := small_facts hs hl
 refine refinerylaw03_Small_Program_of hF fun J hJ => ?_
 rw [refinerylaw03_Small_Program_eq]
 have hE : Ext st st.bump.bump.bump := by simp
 have hA' : ∀ id, A id → id < st.bump.bump.bump.next := fun id h => Nat.lt_of_lt_of_le (hA id h) hE.next
 have hb' : RSl A st.bump.bump.bump 5 (RSB A st.bump.bump.bump) vb s.blocks := RSl.mono hb (fun _ h => h) (hE.agree hA) (fun _ _ _ h => h.mono (hE.agree hA))
 have hm : (s.regs).tmod 6 = s.regs % 6 := Int.tmod_eq_emod_of_nonneg hs.regs.1
 have e1 : IntKind.i64.wrap (s.regs % 6) = s.regs % 6 := wrap_id (by omega)
 have e2 : IntKind.i64.wrap (1 + s.regs % 6) = s.nregs := wrap_id (by omega)
 have e3 : (if (1 : Int) > s.blocks.length then (1 : Int) else s.blocks.length) = s.n := by unfold Small.n; split <;> omega
 simp only [gt_iff_lt] at e3
 simp [hm, e1, e2, hb.len, e3]
 refine SP_l0 hF hJ (st0 := st.bump.bump.bump) (by simp; omega) hs hl hA' hb' (fun st1 vp ids h => ?_) s.n 0 _ (.slice none 0 0) [] (by omega) ⟨Ext.refl _, RepSl.nil _, RepSl.nil _, by simp, by simp⟩
 have hu : sUpd 1 0 (.agg #[.slice none 0 0]) (.agg #[vp]) st1 = .ok (.agg #[vp], st1) := by
  have := h.prog.cell
  simp [Res.need, this]
 simp [refinerylaw03_Small_Program_j1_eq hJ, hu, oneOf]
 exact ⟨ids, h.prog, by simpa using h.nd, fun id hi => ⟨Nat.le_trans hE.next (h.lo id (by simpa using hi)).1, (h.lo id (by simpa using hi)).2⟩, hE.trans h.ext⟩
end Go.Proofs.YtdjfndijbnpkpaaDoor.Sh
