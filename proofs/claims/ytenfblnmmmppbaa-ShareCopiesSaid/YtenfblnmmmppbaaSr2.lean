/-
  Share of a program of one block without phis: the block.
-/
import Derived.Test.YtenfblnmmmppbaaSr1
import Derived.Test.YtenfblnmmmppbaaIrClone
set_option linter.unusedVariables false
set_option linter.unusedSimpArgs false
set_option linter.unusedSectionVars false
set_option maxRecDepth 100000
namespace Go.Proofs.Ytenfblnmmmppbaa.Sh
open Go Go.AM Go.Proofs

/-- What is known after some instructions, and what is left of them. -/
structure Sha where
  same : List (Int × Int)
  keys : List (Key × Int)
  out : List Instr
def shStep (f : Sha) (x : Instr) : Sha :=
  if (x.turned (ofm f.same)).kind = 1 then { f with same := pput f.same x.dst (x.turned (ofm f.same)).a }
  else if reck (x.turned (ofm f.same)) = true then
    match kget f.keys (keyOf (x.turned (ofm f.same))) with
    | some r => { f with same := pput f.same x.dst r }
    | none => { f with keys := f.keys ++ [(keyOf (x.turned (ofm f.same)), x.dst)], out := f.out ++ [x.turned (ofm f.same)] }
  else { f with out := f.out ++ [x.turned (ofm f.same)] }
def shTo (l : List Instr) (k : Nat) : Sha := match k with | 0 => ⟨[], [], []⟩ | k + 1 => match l[k]? with | some x => shStep (shTo l k) x | none => shTo l k
theorem shTo_succ {l : List Instr} {k : Nat} (h : k < l.length) : shTo l (k + 1) = shStep (shTo l k) l[k] := by
  have e : shTo l (k + 1) = (match l[k]? with | some x => shStep (shTo l k) x | none => shTo l k) := rfl
  rw [e, List.getElem?_eq_getElem h]
theorem shTo_len (l : List Instr) (k : Nat) : (shTo l k).out.length ≤ k := by
  induction k with
  | zero => exact Nat.le_refl _
  | succ k ih =>
    have e : shTo l (k + 1) = (match l[k]? with | some x => shStep (shTo l k) x | none => shTo l k) := rfl
    rw [e]
    split
    · unfold shStep
      split
      · exact Nat.le_succ_of_le ih
      · split
        · split
          · exact Nat.le_succ_of_le ih
          · simp; omega
        · simp; omega
    · omega

/-- What there is while a block is gone through: the same map m, the keys km, the rest. -/
structure LB (s1 s : St) (m km : Nat) (f : Sha) (vo : Value) (ids : List Nat) : Prop where
  nx : s1.next ≤ s.next
  ro : s.ro = s1.ro
  keep : ∀ id, id < s1.next → id ≠ m → id ≠ km → s.get id = s1.get id
  ml : m < s1.next
  kl : km < s1.next
  gm : s.get m = some (mPairs I f.same)
  gk : s.get km = some (mKeys f.keys)
  ls : RepSl 7 PInstr s vo f.out ids
  nd : ids.Nodup
  lo : ∀ id ∈ ids, s1.next ≤ id ∧ id < s.next
section
variable {s1 s s' : St} {m km : Nat} {f : Sha} {vo : Value} {ids : List Nat}
theorem LB.mono (h : LB s1 s m km f vo ids) (hE : Ext s s') : LB s1 s' m km f vo ids where
  nx := Nat.le_trans h.nx hE.next
  ro := hE.ro.trans h.ro
  keep := fun id a b c => by rw [hE.get id (Nat.lt_of_lt_of_le a h.nx)]; exact h.keep id a b c
  ml := h.ml
  kl := h.kl
  gm := by rw [hE.get _ (Nat.lt_of_lt_of_le h.ml h.nx)]; exact h.gm
  gk := by rw [hE.get _ (Nat.lt_of_lt_of_le h.kl h.nx)]; exact h.gk
  ls := h.ls.frame PInstr.fr fun id hi => hE.get id (h.lo id hi).2
  nd := h.nd
  lo := fun id hi => ⟨(h.lo id hi).1, Nat.lt_of_lt_of_le (h.lo id hi).2 hE.next⟩
theorem LB.setm (h : LB s1 s m km f vo ids) (hne : m ≠ km) (w : List (Int × Int)) : LB s1 (s.put m (mPairs I w)) m km { f with same := w } vo ids where
  nx := h.nx
  ro := h.ro
  keep := fun id a b c => by rw [get_put, if_neg b]; exact h.keep id a b c
  ml := h.ml
  kl := h.kl
  gm := by rw [get_put, if_pos rfl]
  gk := by rw [get_put, if_neg (Ne.symm hne)]; exact h.gk
  ls := h.ls.frame PInstr.fr fun id hi => by have := (h.lo id hi).1; have := h.ml; rw [get_put, if_neg (by omega)]
  nd := h.nd
  lo := h.lo
theorem LB.setk (h : LB s1 s m km f vo ids) (hne : m ≠ km) (w : List (Key × Int)) : LB s1 (s.put km (mKeys w)) m km { f with keys := w } vo ids where
  nx := h.nx
  ro := h.ro
  keep := fun id a b c => by rw [get_put, if_neg c]; exact h.keep id a b c
  ml := h.ml
  kl := h.kl
  gm := by rw [get_put, if_neg hne]; exact h.gm
  gk := by rw [get_put, if_pos rfl]
  ls := h.ls.frame PInstr.fr fun id hi => by have := (h.lo id hi).1; have := h.kl; rw [get_put, if_neg (by omega)]
  nd := h.nd
  lo := h.lo
theorem LB.push (h : LB s1 s m km f vo ids) (hro : s1.ro ≤ s1.next) (x : Instr) (hl : f.out.length < 1000) : ∃ vo' s' ids', sAppend 7 48 vo (Sl s.next 0 1 7) (s.alloc (.cells (cI x))) = .ok (vo', s') ∧ LB s1 s' m km { f with out := f.out ++ [x] } vo' ids' := by
  have k1 := h.ml; have k2 := h.kl; have hn := h.nx
  obtain ⟨v', s2, ids', r, p1, p2, p3, p4, p5, p6⟩ := RepSl.push (bytes := 48) PInstr.fr h.ls (by omega) (x := x) (cs := cI x) (is := []) ⟨rfl, rfl⟩ rfl rfl (fun id hi => (h.lo id (by simpa using hi)).2) (fun id hi => by
    have := (h.lo id hi).1; rw [h.ro]; omega) (by simpa using h.nd) (by omega)
  have hnl : ∀ id, id < s1.next → id ∉ ids := fun id hi hm => by have := (h.lo id hm).1; omega
  refine ⟨v', s2, ids', r, ⟨by omega, by rw [p6, h.ro], fun id a b c => ?_, k1, k2, ?_, ?_, p1, p2, fun id hi => ?_⟩⟩
  · rw [p4 id (by omega) (hnl id a)]; exact h.keep id a b c
  · rw [p4 m (by omega) (hnl m k1)]; exact h.gm
  · rw [p4 km (by omega) (hnl km k2)]; exact h.gk
  · rcases p3 id hi with q | q | q
    · have := h.lo id q; omega
    · cases q
    · omega
end

variable {K : Ctx} (hF : Fix pgF K)
include hF

/-- An instruction turned by what stands for its registers. -/
theorem TurnedOf_ok {sb m : Nat} {same : List (Int × Int)} {st : St} {pv t1 t2 t3 : Value} (hb : st.get sb = some (.cells [pv, t1, t2, t3, .map (some m)])) (hbl : sb < st.next) (hm : st.get m = some (mPairs I same)) (hml : m < st.next) (hf : Flat same) (x : Instr) :
    Ok (K.go (.call n_ir_Instr_Turned [vI x, .func (.func n_share_sharer_of) #[P sb 0] #[]]) st) fun r => r.1 = vI (x.turned (ofm same)) ∧ Ext st r.2 :=
  Turned_ok hF x (ofm same) _ _ _ st fun r s hE => by
    have e : sCall K (.func (.func n_share_sharer_of) #[P sb 0] #[]) [I r] s = K.go (.call n_share_sharer_of [P sb 0, I r]) s := by simp [sCall, taskOf]
    rw [e, Of_eq hF (m := m) (same := same) (load1_eq (by rw [hE.get _ hbl]; exact hb) rfl) (by rw [hE.get _ hml]; exact hm) (hf.of r)]
    exact ⟨_, rfl, rfl, Ext.refl _⟩

section
variable {J : JT (Value × St)} (hJ : IsJ K (retK share_sharer_block_c.results) J) {Q : Value × St → Prop}
include hJ

theorem SB_l1 {s1 : St} {sb m hb km : Nat} {A : Nat → Prop} {v1 v7 v8 v64 pv t1 t2 t3 : Value} {l : List Instr} (hl : RSl A s1 7 RInstr v64 l) (hll : l.length < 1000) (hA : ∀ id, A id → id < s1.next ∧ id ≠ m ∧ id ≠ km)
    (hsb : s1.get sb = some (.cells [pv, t1, t2, t3, .map (some m)])) (hsl : sb < s1.next ∧ sb ≠ m ∧ sb ≠ km) (hhb : s1.get hb = some (.cells [.pointer none, .map (some km)])) (hhl : hb < s1.next ∧ hb ≠ m ∧ hb ≠ km)
    (hne : m ≠ km) (hro : s1.ro ≤ s1.next) (hrm : s1.ro ≤ m) (hrk : s1.ro ≤ km) (hfl : ∀ k, Flat (shTo l k).same)
    (hk : ∀ s vo ids, LB s1 s m km (shTo l l.length) vo ids → Ok (share_sharer_block_j4 J (P sb 0) v1 (P hb 0) v7 v8 vo s) Q) (d : Nat) : ∀ (i : Nat) (s : St) (vo : Value) (ids : List Nat), i + d = l.length → LB s1 s m km (shTo l i) vo ids →
    Ok (share_sharer_block_l1 J (P sb 0) v1 (P hb 0) v7 v8 vo v64 (I l.length) (I i) s) Q := by
  induction d with
  | zero =>
    intro i s vo ids hi h
    refine share_sharer_block_l1_of hF hJ ?_
    rw [share_sharer_block_l1_eq]
    have : i = l.length := by omega
    subst this
    simp
    exact hk s vo ids h
  | succ d ih =>
    intro i s vo ids hi h
    refine share_sharer_block_l1_of hF hJ ?_
    rw [share_sharer_block_l1_eq]
    have hlt : i < l.length := by omega
    have hlt' : (i : Int) < l.length := by omega
    obtain ⟨b, o, cs, k1, k2, k3, -⟩ := hl.at (List.getElem?_eq_getElem hlt)
    have k3 : cs = cI l[i] := k3
    subst k3
    have hag : Agree A s1 s := fun id hid => by obtain ⟨a, b, c⟩ := hA id hid; exact h.keep id a b c
    have hv : ∀ x : Instr, Value.agg (cI x).toArray = vI x := fun x => rfl
    have hnc : ∀ (b o : Nat) s, sNilc (P b o) s = .ok (P b o, s) := fun b o s => rfl
    have Lsb : ∀ {f s vo ids}, LB s1 s m km f vo ids → s.get sb = some (.cells [pv, t1, t2, t3, .map (some m)]) := fun h => by rw [h.keep sb hsl.1 hsl.2.1 hsl.2.2]; exact hsb
    have Lhb : ∀ {f s vo ids}, LB s1 s m km f vo ids → s.get hb = some (.cells [.pointer none, .map (some km)]) := fun h => by rw [h.keep hb hhl.1 hhl.2.1 hhl.2.2]; exact hhb
    have lsb : ∀ {f s vo ids}, LB s1 s m km f vo ids → s.load1 sb 4 = .ok (.map (some m)) := fun h => load1_eq (Lsb h) rfl
    have hfi := hfl i
    have hstep := shTo_succ hlt
    have hlen := shTo_len l i
    generalize hx : l[i] = x at *
    generalize hff : shTo l i = f at *
    have hb0 := h.mono (by simp : Ext s s.bump)
    simp [hlt', share_sharer_block_j3_eq hJ, k1, k2 s hag, hv]
    refine (TurnedOf_ok hF (Lsb hb0) (Nat.lt_of_lt_of_le hsl.1 hb0.nx) hb0.gm (Nat.lt_of_lt_of_le h.ml hb0.nx) hfi x).call fun s2 hE2 => ?_
    have h2 := hb0.mono hE2
    unfold shStep at hstep
    generalize hy : x.turned (ofm f.same) = y at *
    have hyd : y.dst = x.dst := by rw [← hy]; exact turned_dst _ _
    -- on to the next
    have hend : ∀ s vo ids, LB s1 s m km (shTo l (i + 1)) vo ids → Ok (share_sharer_block_j5 J (P sb 0) v1 (P hb 0) v7 v8 vo v64 (I l.length) (I i) s) Q := fun s vo ids hs => by
      rw [share_sharer_block_j5_eq hJ]
      simp
      rw [wrap_id (n := (i : Int) + 1) (by omega)]
      exact ih (i + 1) s vo ids (by omega) hs
    have mset : ∀ {s vo ids} (h : LB s1 s m km f vo ids) (w : Int), sMapSet (.cell .int) (.map (some m)) (I x.dst) (I w) s = .ok (nothing, s.put m (mPairs I (pput f.same x.dst w))) := fun h w => sMapSet_pairs (f := I) h.gm _ _ (by rw [h.ro]; exact hrm)
    by_cases hk1 : y.kind = 1
    · rw [if_pos hk1] at hstep
      simp [hk1, hnc, lsb h2, hyd, mset h2]
      exact hend _ _ _ (by rw [hstep]; exact h2.setm hne _)
    · rw [if_neg hk1] at hstep
      simp [hk1, share_sharer_block_j6_eq hJ]
      refine (Reckons_ok hF (P sb 0) y s2).call fun s3 hE3 => ?_
      have h3 := h2.mono hE3
      have h3b := h3.mono (by simp : Ext s3 s3.bump)
      have f5 : ∀ k s, sField (some 5) 0 (vK k) s = .ok (vK k, s) := fun k s => rfl
      have u0 : ∀ k s, sUpd 5 0 (.agg #[U 0, U 0, I 0, I 0, I 0]) (vK k) s = .ok (vK k, s) := fun k s => by simp [vK, Res.need]
      -- kept
      have hpush : ∀ {s vo ids g} (h : LB s1 s m km g vo ids), g.out = f.out → { g with out := f.out ++ [y] } = shTo l (i + 1) → ∃ vo' s' ids', sAppend 7 48 vo (Sl s.next 0 1 7) (s.alloc (.cells (cI y))) = .ok (vo', s') ∧ LB s1 s' m km (shTo l (i + 1)) vo' ids' := fun {s vo ids g} h e1 e2 => by
        obtain ⟨vo', s', ids', q1, q2⟩ := h.push hro y (by rw [e1]; omega)
        rw [e1, e2] at q2
        exact ⟨vo', s', ids', q1, q2⟩
      cases hr : reck y with
      | false =>
        rw [if_neg (by rw [hr]; decide)] at hstep
        obtain ⟨vo', s', ids', q1, q2⟩ := hpush h3b rfl hstep.symm
        have q1 : sAppend 7 48 vo (Sl (s3.next + 1) 0 1 7) (s3.bump.alloc (.cells (cI y))) = .ok (vo', s') := q1
        simp [Res.of, u0, q1]
        exact hend _ _ _ q2
      | true =>
        rw [if_pos hr] at hstep
        simp [Res.of, u0, share_sharer_block_j7_eq hJ, f5]
        refine (Find1_ok hF (Lhb h3b) h3b.gk (Nat.lt_of_lt_of_le hhl.1 h3b.nx) (Nat.lt_of_lt_of_le h.kl h3b.nx) (keyOf y)).call fun s4 hE4 => ?_
        have h4 := h3b.mono hE4
        cases hkg : kget f.keys (keyOf y) with
        | some r =>
          rw [hkg] at hstep
          simp [Res.of, hnc, lsb h4, hyd, mset h4]
          exact hend _ _ _ (by rw [hstep]; exact h4.setm hne _)
        | none =>
          rw [hkg] at hstep
          have l1 : s4.load1 hb 1 = .ok (.map (some km)) := load1_eq (Lhb h4) rfl
          have ks := sMapSet_keys h4.gk (keyOf y) x.dst (by rw [h4.ro]; exact hrk) hkg
          unfold k5 at ks
          have h5 := h4.setk hne (f.keys ++ [(keyOf y, x.dst)])
          obtain ⟨vo', s', ids', q1, q2⟩ := hpush h5 rfl hstep.symm
          have q1 : sAppend 7 48 vo (Sl s4.next 0 1 7) ((s4.put km (mKeys (f.keys ++ [(keyOf y, x.dst)]))).alloc (.cells (cI y))) = .ok (vo', s') := q1
          simp [Res.of, hnc, l1, f5, hyd, ks, share_sharer_block_j9_eq hJ, q1]
          exact hend _ _ _ q2
end

/-- The one block, gone through. -/
theorem SBlock_ok {sb m bid : Nat} {t1 t2 t3 vph vi : Value} {b : Block} {st : St} {A : Nat → Prop} (hsb : st.get sb = some (.cells [Sl bid 0 1 7, t1, t2, t3, .map (some m)])) (hm : st.get m = some (mPairs I [])) (hg : st.get bid = some (.cells (cB b.label vph vi b.last)))
    (hvp : ∀ s, sLen .slice vph s = .ok (I 0, s)) (hl : RSl A st 7 RInstr vi b.instrs) (hll : b.instrs.length < 1000) (hA : ∀ id, A id → id < st.next ∧ id ≠ m) (hlt : sb < st.next ∧ m < st.next ∧ bid < st.next) (hne : sb ≠ m ∧ bid ≠ m ∧ sb ≠ bid) (hro : st.ro ≤ st.next) (hrm : st.ro ≤ m) (hrb : st.ro ≤ bid)
    {ub lb db : Nat} (ht : .agg #[t1, t2, t3] = Value.agg #[Sl ub 0 1 1, Sl lb 0 1 1, Sl db 0 1 1]) (hlb : st.get lb = some (.cells [.slice none 0 0])) (hlbl : lb < st.next ∧ lb ≠ m ∧ lb ≠ bid) (hfl : ∀ k, Flat (shTo b.instrs k).same) :
    Ok (K.go (.call n_share_sharer_block [P sb 0, I 0, .pointer none]) st) fun r => r.1 = .tuple #[] ∧ ∃ vo ids, r.2.get bid = some (.cells (cB b.label (.slice none 0 0) vo b.last)) ∧ RepSl 7 PInstr r.2 vo (shTo b.instrs b.instrs.length).out ids ∧ ids.Nodup ∧ (∀ id ∈ ids, st.next ≤ id ∧ id < r.2.next) ∧ r.2.get m = some (mPairs I (shTo b.instrs b.instrs.length).same) ∧ st.next ≤ r.2.next ∧ r.2.ro = st.ro ∧ ∀ id, id < st.next → id ≠ m → id ≠ bid → r.2.get id = st.get id := by
  generalize hQ : (fun r : Value × St => r.1 = .tuple #[] ∧ ∃ vo ids, r.2.get bid = some (.cells (cB b.label (.slice none 0 0) vo b.last)) ∧ RepSl 7 PInstr r.2 vo (shTo b.instrs b.instrs.length).out ids ∧ ids.Nodup ∧ (∀ id ∈ ids, st.next ≤ id ∧ id < r.2.next) ∧ r.2.get m = some (mPairs I (shTo b.instrs b.instrs.length).same) ∧ st.next ≤ r.2.next ∧ r.2.ro = st.ro ∧ ∀ id, id < st.next → id ≠ m → id ≠ bid → r.2.get id = st.get id) = Q
  refine share_sharer_block_of hF fun J hJ => ?_
  rw [share_sharer_block_eq]
  obtain ⟨hl1, hl2, hl3⟩ := hlt
  obtain ⟨n1, n2, n3⟩ := hne
  have hnm : sNewMap st = .ok (.map (some st.next), st.alloc (.map [])) := rfl
  generalize hs1 : st.alloc (.map []) = s1 at hnm
  have x1 : s1.next = st.next + 1 := by rw [← hs1]; rfl
  have g1 : s1.get st.next = some (mKeys []) := by rw [← hs1, get_alloc, if_pos rfl]; rfl
  have E1 : Ext st s1 := by rw [← hs1]; simp
  clear hs1
  have hbu : ∀ s, sBuild [.pointer none, .map none] [(0, 1, .pointer none), (1, 1, .map (some st.next))] s = .ok (.agg #[.pointer none, .map (some st.next)], s) := fun s => rfl
  have hbx : sBox (.agg #[.pointer none, .map (some st.next)]) s1 = .ok (P s1.next 0, s1.alloc (.cells [.pointer none, .map (some st.next)])) := rfl
  generalize hs2 : s1.alloc (.cells [.pointer none, .map (some st.next)]) = s2 at hbx
  have x2 : s2.next = st.next + 2 := by rw [← hs2]; show s1.next + 1 = _; omega
  have g2 : s2.get s1.next = some (.cells [.pointer none, .map (some st.next)]) := by rw [← hs2, get_alloc, if_pos rfl]
  have E2 : Ext s1 s2 := by rw [← hs2]; simp
  clear hs2
  have E : Ext st s2 := E1.trans E2
  have gs : s2.get sb = some (.cells [Sl bid 0 1 7, t1, t2, t3, .map (some m)]) := by rw [E.get _ hl1]; exact hsb
  have gb : s2.get bid = some (.cells (cB b.label vph vi b.last)) := by rw [E.get _ hl3]; exact hg
  have l0 : s2.load1 sb 0 = .ok (Sl bid 0 1 7) := load1_eq gs rfl
  have l1 : s2.load1 bid 1 = .ok vph := load1_eq gb rfl
  have l2 : s2.load1 bid 2 = .ok vi := load1_eq gb rfl
  have hnc : ∀ (b o : Nat) s, sNilc (P b o) s = .ok (P b o, s) := fun b o s => rfl
  have hix : ∀ s, sIxA 7 none (Sl bid 0 1 7) (I 0) s = .ok (P bid 0, s) := fun s => by simp [sIxA, index, Res.need]
  simp [-sBox_agg, -sLen_slice, hnm, hbu, hbx, hnc, l0, hix, l1, hvp]
  refine share_sharer_block_l0_of hF hJ ?_
  rw [share_sharer_block_l0_eq]
  have hl' := hl.mono (fun _ h => h) (E.agree fun id h => (hA id h).1) (R' := RInstr) fun _ _ _ h => h
  simp [-sLen_slice, share_sharer_block_j1_eq hJ, hnc, l2, hl'.len]
  refine SB_l1 hF hJ (s1 := s2) (m := m) (km := st.next) hl' hll (fun id h => by obtain ⟨a, b⟩ := hA id h; exact ⟨by omega, b, by omega⟩) gs ⟨by omega, n1, by omega⟩ g2 ⟨by omega, by omega, by omega⟩ (by omega) (E.roOk hro) (by rw [E.ro]; exact hrm) (by rw [E.ro]; exact hro) hfl (fun s vo ids h => ?_) b.instrs.length 0 s2 (.slice none 0 0) [] (by omega) ⟨Nat.le_refl _, rfl, fun _ _ _ _ => rfl, by omega, by omega, by rw [E.get _ hl2]; exact hm, by rw [E2.get _ (by omega)]; exact g1, RepSl.nil _, by simp, by simp⟩
  rw [share_sharer_block_j4_eq hJ]
  have gb' : s.get bid = some (.cells (cB b.label vph vi b.last)) := by rw [h.keep bid (by omega) n2 (by omega)]; exact gb
  have hr : s.ro ≤ bid := by rw [h.ro, E.ro]; exact hrb
  have t1' : s.storeN bid 1 [.slice none 0 0] = .ok (s.put bid (.cells (cB b.label (.slice none 0 0) vi b.last))) := by
    rw [storeN_def, gb']
    simp only [need_dec hr, need_dec (show 1 + [Value.slice none 0 0].length ≤ (cB b.label vph vi b.last).length by simp [cB])]
    simp [splice, cB, Res.need]
  have hvo : cellOk vo = true := h.ls.cell
  have t2' : (s.put bid (.cells (cB b.label (.slice none 0 0) vi b.last))).storeN bid 2 [vo] = .ok ((s.put bid (.cells (cB b.label (.slice none 0 0) vi b.last))).put bid (.cells (cB b.label (.slice none 0 0) vo b.last))) := by
    rw [storeN_def, get_put, if_pos rfl]
    simp only [ro_put, need_dec hr, need_dec (show 2 + [vo].length ≤ (cB b.label (.slice none 0 0) vi b.last).length by simp [cB])]
    simp [splice, cB, Res.need, hvo]
  generalize hs6 : (s.put bid (.cells (cB b.label (.slice none 0 0) vi b.last))).put bid (.cells (cB b.label (.slice none 0 0) vo b.last)) = s6 at t2'
  have x6 : s6.next = s.next := by rw [← hs6]; rfl
  have r6 : s6.ro = s.ro := by rw [← hs6]; rfl
  have g6 : s6.get bid = some (.cells (cB b.label (.slice none 0 0) vo b.last)) := by rw [← hs6, get_put, if_pos rfl]
  have k6 : ∀ id, id ≠ bid → s6.get id = s.get id := fun id hi => by rw [← hs6, get_put, if_neg hi, get_put, if_neg hi]
  clear hs6
  have hst1 : ∀ s, sStore 1 (P bid 2) vo s = s.storeN bid 2 [vo] >>= fun s => .ok (nothing, s) := fun s => by
    obtain ⟨a, n, c, rfl⟩ := h.ls.shape
    simp [-storeN_def, Res.need]
  have gs6 : s6.get sb = some (.cells [Sl bid 0 1 7, t1, t2, t3, .map (some m)]) := by rw [k6 _ n3, h.keep sb (by omega) n1 (by omega)]; exact gs
  have lN : s6.loadN sb 1 3 = .ok [t1, t2, t3] := by rw [loadN_def, gs6]; rfl
  have hlen := h.nx
  have glb : s6.get lb = some (.cells [.slice none 0 0]) := by rw [k6 _ hlbl.2.2, h.keep lb (by omega) hlbl.2.1 (by omega), E.get _ hlbl.1]; exact hlb
  simp [-storeN_def, hnc, t1', hst1, t2', lN, Res.need]
  have ht' : Value.agg #[t1, t2, t3] = Value.agg #[Sl ub 0 1 1, Sl lb 0 1 1, Sl db 0 1 1] := ht
  rw [ht']
  refine (Below0_ok hF glb (by omega)).call fun s7 hE7 => ?_
  have hln : ∀ s, sLen .slice (.slice none 0 0) s = .ok (I 0, s) := fun s => rfl
  simp [-sLen_slice, hln]
  refine share_sharer_block_l2_of hF hJ ?_
  rw [share_sharer_block_l2_eq]
  simp
  rw [← hQ]
  have hn7 := hE7.next
  refine ⟨rfl, vo, ids, by rw [hE7.get _ (by omega)]; exact g6, ?_, h.nd, fun id hi => ?_, ?_, by show st.next ≤ s7.next; omega, ?_, fun id a b c => ?_⟩
  · refine h.ls.frame PInstr.fr fun id hi => ?_
    have := h.lo id hi
    show s7.get id = _
    rw [hE7.get _ (by omega), k6 _ (by omega)]
  · have := h.lo id hi
    exact ⟨by omega, by show id < s7.next; omega⟩
  · show s7.get m = _
    rw [hE7.get _ (by omega), k6 _ (Ne.symm n2)]; exact h.gm
  · show s7.ro = _
    rw [hE7.ro, r6, h.ro, E.ro]
  · show s7.get id = _
    rw [hE7.get _ (by omega), k6 _ c, h.keep id (by omega) b (by omega), E.get _ a]
end Go.Proofs.Ytenfblnmmmppbaa.Sh

