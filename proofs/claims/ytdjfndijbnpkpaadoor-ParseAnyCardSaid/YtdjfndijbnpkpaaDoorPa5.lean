/-
  The reader's functions: block, program.
-/
import Derived.Test.YtdjfndijbnpkpaaDoorPa4
import Derived.Test.YtdjfndijbnpkpaaDoorIrRep
set_option linter.unusedVariables false
set_option linter.unusedSimpArgs false
set_option linter.unusedSectionVars false
set_option maxRecDepth 100000
namespace Go.Proofs.YtdjfndijbnpkpaaDoor.Sh
open Go Go.AM Go.Proofs Go.AM.Lx
theorem push_own {α : Type} {R : Rep α} {s bytes n0 : Nat} {st : St} {v : Value} {l : List α} {ids is : List Nat} {x : α} {cs : List Value} (hR : Framed R) (h : RepSl s R st v l ids) (hs : 0 < s) (hx : R st cs x is) (hcs : cs.length = s) (hck : cs.all cellOk = true) (hnd : (ids ++ is).Nodup) (hid : ∀ id ∈ ids ++ is, n0 ≤ id ∧ id < st.next) (hn : n0 ≤ st.next) (hro : st.ro ≤ n0) (hl : (l.length + 1) * bytes ≤ 2 ^ 46) :
 ∃ v' st' ids', sAppend s bytes v (Sl st.next 0 1 s) (st.alloc (.cells cs)) = .ok (v', st') ∧ RepSl s R st' v' (l ++ [x]) ids' ∧ ids'.Nodup ∧ (∀ id ∈ ids', n0 ≤ id ∧ id < st'.next) ∧ (∀ id, id < n0 → st'.get id = st.get id) ∧ st.next ≤ st'.next ∧ st'.ro = st.ro := by
 obtain ⟨v', s2, ids', hap, own2, nd2, in2, fr, nx2, ro2⟩ := h.push (bytes := bytes) hR hs hx hcs hck (fun id hid' => (hid id hid').2) (fun id hid' => by have := hid id (List.mem_append_left _ hid'); omega) hnd hl
 refine ⟨v', s2, ids', hap, own2, nd2, fun id hm => ?_, fun id hlt => fr id (by omega) fun hm => by have := hid id (List.mem_append_left _ hm); omega, by omega, ro2⟩
 rcases in2 id hm with h | h | h
 ·have := hid id (List.mem_append_left _ h); omega
 ·have := hid id (List.mem_append_right _ h); omega
 ·omega
variable {K : Ctx} (hF : Fix pgF K)
include hF
section
variable {st0 : St} {rb : Nat} {vl : Value} {ts : List Tok}
structure Mine (n0 : Nat) (st : St) (ids : List Nat) : Prop where
 nd : ids.Nodup
 at_ : ∀ id ∈ ids, n0 ≤ id ∧ id < st.next
structure KeepN (n0 rb : Nat) (st st' : St) : Prop where
 next : st.next ≤ st'.next
 ro : st'.ro = st.ro
 get : ∀ id, id < n0 → id ≠ rb → st'.get id = st.get id
omit hF in
theorem KeepN.trans {n0 rb : Nat} {a b c : St} (h : KeepN n0 rb a b) (k : KeepN n0 rb b c) : KeepN n0 rb a c := ⟨Nat.le_trans h.next k.next, k.ro.trans h.ro, fun id hi hx => (k.get id hi hx).trans (h.get id hi hx)⟩
omit hF in
theorem Keep.n {n0 rb : Nat} {a b : St} (h : Keep rb a b) (hn : n0 ≤ a.next) : KeepN n0 rb a b := ⟨h.next, h.ro, fun id hi hx => h.get id (Nat.lt_of_lt_of_le hi hn) hx⟩
omit hF in
theorem Mine.mono {n0 : Nat} {st st' : St} {ids : List Nat} (h : Mine n0 st ids) (hn : st.next ≤ st'.next) : Mine n0 st' ids := ⟨h.nd, fun id hi => ⟨(h.at_ id hi).1, Nat.lt_of_lt_of_le (h.at_ id hi).2 hn⟩⟩
omit hF in
theorem RD.frame {st st' : St} {s : PS} {n0 : Nat} (h : RD st0 st rb vl ts s) (hT : Toks st0 rb vl ts) (hn : st.next ≤ st'.next) (hro : st'.ro = st.ro) (h0 : st0.next ≤ n0) (hE : ∀ id, id < n0 → st'.get id = st.get id) : RD st0 st' rb vl ts s := by
 have hl := hT.lt
 refine ⟨⟨Nat.le_trans h.keep.next hn, hro.trans h.keep.ro, fun id hi hx => (hE id (by omega)).trans (h.keep.get id hi hx)⟩, ?_⟩
 obtain ⟨i, h1, h2⟩ := h.pos
 exact ⟨i, by rw [hE rb (by omega)]; exact h1, h2⟩
theorem block_tail {J} (hJ : IsJ K (retK parse_reader_block_c.results) J) (hT : Toks st0 rb vl ts) {st : St} {s : PS} {b : Int} {vi : Value} {l : List Instr} {e : Last} {ids : List Nat} {n0 : Nat} (hn0 : st0.next ≤ n0) (h : RD st0 st rb vl ts s) (hi : RepSl 7 PInstr st vi l ids) (hm : Mine n0 st ids) :
 Ok (parse_reader_block_j1 J (P rb 0) (.agg #[I 0, .slice none 0 0, .slice none 0 0, U 0, I 0, I 0, I 0]) (vB b (.slice none 0 0) vi e) st) fun r => r.1 = vB b (.slice none 0 0) vi e ∧ RepSl 7 PInstr r.2 vi l ids ∧ Mine n0 r.2 ids ∧ Keep rb st r.2 ∧ RD st0 r.2 rb vl ts (if s.is 0 [] then s else s.eol) := by
 rw [parse_reader_block_j1_eq hJ, T_bstr]
 refine callR (is_call hF hT h 0 []) fun s1 K1 R1 => ?_
 have hl := hT.lt
 have hu : ∀ s', sUpd 7 0 (.agg #[I 0, .slice none 0 0, .slice none 0 0, U 0, I 0, I 0, I 0]) (vB b (.slice none 0 0) vi e) s' = .ok (vB b (.slice none 0 0) vi e, s') := fun s' => by
  have := hi.cell
  simp [vB, Res.need, this]
 have fr : ∀ s', Keep rb st s' → RepSl 7 PInstr s' vi l ids ∧ Mine n0 s' ids := fun s' k => ⟨hi.frame PInstr.fr fun id hid => k.get id (hm.at_ id hid).2 (by have := (hm.at_ id hid).1; omega), hm.mono k.next⟩
 cases c : s.is 0 [] with
 | true =>
   simp only [sUn_not, Bool.not_true, thn_ok, condX_eq, cond_false, parse_reader_block_j3_eq hJ, sField_vB, hu, Res.bind_ok]
   exact ⟨_, rfl, rfl, (fr s1 K1).1, (fr s1 K1).2, K1, R1⟩
 | false =>
   simp only [sUn_not, Bool.not_false, thn_ok, condX_eq, cond_true, T_bstr]
   refine callR (take_call hF hT R1 7 []) fun s2 K2 R2 => ?_
   simp only [parse_reader_block_j3_eq hJ, sField_vB, hu, Res.bind_ok, thn_ok]
   exact ⟨_, rfl, rfl, (fr s2 (K1.trans K2)).1, (fr s2 (K1.trans K2)).2, K1.trans K2, R2⟩
theorem block_loop {J} (hJ : IsJ K (retK parse_reader_block_c.results) J) (hT : Toks st0 rb vl ts) {b : Int} {n0 : Nat} (hn0 : st0.next ≤ n0) : ∀ (f : Nat) (s s' : PS) (l L : List Instr) (e : Last) (st : St) (vi : Value) (ids : List Nat), PS.bloop f s l = some (L, e, s') → l.length + f ≤ 100000000 → n0 ≤ st.next → RD st0 st rb vl ts s → RepSl 7 PInstr st vi l ids → Mine n0 st ids →
 Ok (parse_reader_block_l0 J (P rb 0) (.agg #[I 0, .slice none 0 0, .slice none 0 0, U 0, I 0, I 0, I 0]) (vB b (.slice none 0 0) vi ⟨0, 0, 0, 0⟩) st) fun r => ∃ vi' ids', r.1 = vB b (.slice none 0 0) vi' e ∧ RepSl 7 PInstr r.2 vi' L ids' ∧ Mine n0 r.2 ids' ∧ KeepN n0 rb st r.2 ∧ RD st0 r.2 rb vl ts (if s'.is 0 [] then s' else s'.eol) := by
 intro f
 induction f with
 | zero => intro s s' l L e st vi ids hb; cases hb
 | succ f ih =>
   intro s s' l L e st vi ids hb hlen hn h hi hm
   refine parse_reader_block_l0_of hF hJ ?_
   rw [parse_reader_block_l0_eq]
   have hl3 := h.err
   have hlt := hT.lt
   unfold PS.bloop at hb
   by_cases c : s.err = 0
   ·rw [if_pos c] at hb
    simp only [sNilc_P', thn_ok, sOff_eq, Nat.zero_add, sLoad1, hl3, Res.bind_ok, sEql, decide_eq_true c, condX_eq, cond_true, parse_reader_block_j0_eq hJ]
    refine callR (lines_call hF hT h) fun s1 K1 R1 => ?_
    simp only
    refine callR (last_call hF hT R1) fun s2 K2 R2 => ?_
    have K2' := K1.trans K2
    have E3 : Ext s2 s2.bump := (Ext.refl s2).bump
    have K3 := K2'.trans (E3.keep rb)
    have R3 := R2.mono hT E3
    have fr3 : RepSl 7 PInstr s2.bump vi l ids ∧ Mine n0 s2.bump ids := ⟨hi.frame PInstr.fr fun id hid => K3.get id (hm.at_ id hid).2 (by have := (hm.at_ id hid).1; omega), hm.mono K3.next⟩
    simp only [sExtract_eq, List.getElem?_toArray, List.getElem?_cons_zero, List.getElem?_cons_succ, Res.of_some, Res.bind_ok, thn_ok, sLnew_eq, zL_upd]
    cases d : s.lines.last.1.2 with
    | true =>
      rw [d, if_pos rfl] at hb
      cases hb
      simp only [condX_eq, cond_true, sField_vL, thn_ok, sLref_vB, sUpd_vBl]
      refine (block_tail hF hJ hT hn0 R3 fr3.1 fr3.2).mono fun r ⟨e1, e2, e3, e4, e5⟩ => ⟨vi, ids, e1, e2, e3, (K3.n hn).trans (e4.n (Nat.le_trans hn K3.next)), e5⟩
    | false =>
      rw [d, if_neg (by decide)] at hb
      simp only [condX_eq, cond_false, parse_reader_block_j2_eq hJ]
      refine callR (instr_call hF hT R3) fun s4 K4 R4 => ?_
      have K4' := K3.trans K4
      have hi4 : RepSl 7 PInstr s4 vi l ids := fr3.1.frame PInstr.fr fun id hid => K4.get id (fr3.2.at_ id hid).2 (by have := (fr3.2.at_ id hid).1; omega)
      have hm4 : Mine n0 s4 ids := fr3.2.mono K4.next
      have hro : s4.ro ≤ n0 := by rw [R4.keep.ro]; have := hT.ro; omega
      have hn4 : n0 ≤ s4.next := Nat.le_trans hn K4'.next
      obtain ⟨v', s5, ids', ap, r5, nd5, at5, fr5, nx5, ro5⟩ := push_own (bytes := 48) (n0 := n0) (x := s.lines.last.2.instr.1) (cs := cI s.lines.last.2.instr.1) (is := []) PInstr.fr hi4 (by decide) ⟨rfl, rfl⟩ rfl (by simp [cI]) (by simpa using hm4.nd) (by simpa using hm4.at_) hn4 hro (by omega)
      have R5 := RD.frame R4 hT nx5 ro5 hn0 fr5
      have hsty : ∀ l b, sStays l b nothing (fun s => Res.ok (vi, s)) vi = true := fun l b => sStays_same (by rcases hi with ⟨_, _, c, rfl⟩ | ⟨_, _, _, rfl, _⟩ <;> exact sameVal_slice _ _ _)
      simp only [sLref_vB, thn_ok, sField_vB2, hsty, Res.need_true, Res.bind_ok, sLit_vI, ap, sUpd_vBi _ _ _ _ _ r5.cell r5.tup r5.cells, T_bstr]
      refine callR (take_call hF hT R5 7 []) fun s6 K6 R6 => ?_
      simp only
      have r6 : RepSl 7 PInstr s6 v' (l ++ [s.lines.last.2.instr.1]) ids' := r5.frame PInstr.fr fun id hid => K6.get id (at5 id hid).2 (by have := (at5 id hid).1; omega)
      have nn : KeepN n0 rb st s6 := ((K4'.n hn).trans ⟨nx5, ro5, fun id hi _ => fr5 id hi⟩).trans (K6.n (by omega))
      refine (ih _ s' _ L e s6 v' ids' hb (by simp; omega) (Nat.le_trans hn nn.next) R6 r6 ⟨nd5, fun id hid => ⟨(at5 id hid).1, Nat.lt_of_lt_of_le (at5 id hid).2 K6.next⟩⟩).mono fun r ⟨vi', ids2, e1, e2, e3, e4, e5⟩ => ⟨vi', ids2, e1, e2, e3, nn.trans e4, e5⟩
   ·rw [if_neg c] at hb
    cases hb
    simp only [sNilc_P', thn_ok, sOff_eq, Nat.zero_add, sLoad1, hl3, Res.bind_ok, sEql, decide_eq_false c, condX_eq, cond_false]
    refine (block_tail hF hJ hT hn0 h hi hm).mono fun r ⟨e1, e2, e3, e4, e5⟩ => ⟨vi, ids, e1, e2, e3, e4.n hn, e5⟩
theorem block_call (hT : Toks st0 rb vl ts) {st : St} {s s' : PS} {b : Block} {f : Nat} (hf : f ≤ 100000000) (h : RD st0 st rb vl ts s) (hb : PS.block f s = some (b, s')) :
 Ok (K.go (.call n_parse_reader_block [P rb 0]) st) fun r => ∃ vi ids, r.1 = vB b.label (.slice none 0 0) vi b.last ∧ RepSl 7 PInstr r.2 vi b.instrs ids ∧ b.phis = [] ∧ Mine st.next r.2 ids ∧ Keep rb st r.2 ∧ RD st0 r.2 rb vl ts s' := by
 refine parse_reader_block_of hF fun J hJ => ?_
 rw [parse_reader_block_eq]
 unfold PS.block at hb
 cases hbl : PS.bloop f (s.label.2.sign 58).eol [] with
 | none => rw [hbl] at hb; cases hb
 | some x =>
   obtain ⟨L, e, s2⟩ := x
   rw [hbl] at hb
   cases hb
   have E1 : Ext st st.bump := (Ext.refl st).bump
   simp only [sLnew_eq, thn_ok]
   refine callR (label_call hF hT (h.mono hT E1)) fun s1 K1 R1 => ?_
   have hbd : ∀ s', sBuild [I 0, .slice none 0 0, .slice none 0 0, U 0, I 0, I 0, I 0] [(0, 1, I s.label.1)] s' = .ok (vB s.label.1 (.slice none 0 0) (.slice none 0 0) ⟨0, 0, 0, 0⟩, s') := fun s' => rfl
   have hu : ∀ s', sUpd 7 0 (.agg #[I 0, .slice none 0 0, .slice none 0 0, U 0, I 0, I 0, I 0]) (vB s.label.1 (.slice none 0 0) (.slice none 0 0) ⟨0, 0, 0, 0⟩) s' = .ok (vB s.label.1 (.slice none 0 0) (.slice none 0 0) ⟨0, 0, 0, 0⟩, s') := fun s' => by simp [vB, Res.need]
   simp only [hbd, thn_ok, hu, T_bstr]
   refine callR (take_call hF hT (R1.mono hT (Ext.refl s1).bump) 6 [58]) fun s3 K3 R3 => ?_
   simp only
   refine callR (take_call hF hT R3 7 []) fun s4 K4 R4 => ?_
   have KK := ((((E1.keep rb).trans K1).trans ((Ext.refl s1).bump.keep rb)).trans K3).trans K4
   have hn0 : st0.next ≤ st.next := h.keep.next
   simp only
   refine (block_loop hF hJ hT hn0 f _ s2 [] L e s4 (.slice none 0 0) [] hbl (by simpa using hf) KK.next R4 (RepSl.nil _) ⟨List.nodup_nil, by simp⟩).mono fun r ⟨vi, ids, e1, e2, e3, e4, e5⟩ => ?_
   have kk := (KK.n (Nat.le_refl _)).trans e4
   exact ⟨vi, ids, e1, e2, by trivial, e3, ⟨kk.next, kk.ro, kk.get⟩, e5⟩
theorem prog_loop {J} (hJ : IsJ K (retK parse_reader_program_c.results) J) (hT : Toks st0 rb vl ts) {n0 : Nat} (hn0 : st0.next ≤ n0) : ∀ (f : Nat) (s s' : PS) (l L : Prog) (st : St) (vp : Value) (ids : List Nat), PS.progL f s l = some (L, s') → l.length + f ≤ 100000000 → n0 ≤ st.next → RD st0 st rb vl ts s → PProg st vp l ids → Mine n0 st ids →
 Ok (parse_reader_program_l0 J (P rb 0) (.agg #[.slice none 0 0]) (.agg #[vp]) st) fun r => ∃ vp' ids', r.1 = .agg #[vp'] ∧ PProg r.2 vp' L ids' ∧ Mine n0 r.2 ids' ∧ KeepN n0 rb st r.2 ∧ RD st0 r.2 rb vl ts s' := by
 intro f
 induction f with
 | zero => intro s s' l L st vp ids hb; cases hb
 | succ f ih =>
   intro s s' l L st vp ids hb hlen hn h hi hm
   refine parse_reader_program_l0_of hF hJ ?_
   rw [parse_reader_program_l0_eq, T_bstr]
   have hlt := hT.lt
   refine callR (is_call hF hT h 3 []) fun s1 K1 R1 => ?_
   have fr1 : PProg s1 vp l ids ∧ Mine n0 s1 ids := ⟨hi.frame fun id hid => K1.get id (hm.at_ id hid).2 (by have := (hm.at_ id hid).1; omega), hm.mono K1.next⟩
   unfold PS.progL at hb
   cases c : s.is 3 [] with
   | false =>
     rw [c, if_neg (by decide)] at hb
     cases hb
     simp only [condX_eq, cond_false, parse_reader_program_j1_eq hJ, T_bstr]
     refine callR (take_call hF hT R1 0 []) fun s2 K2 R2 => ?_
     have K12 := K1.trans K2
     have hp : PProg s2 vp l ids := hi.frame fun id hid => K12.get id (hm.at_ id hid).2 (by have := (hm.at_ id hid).1; omega)
     have h1 : ∀ s', sField (some 1) 0 (.agg #[vp]) s' = .ok (.agg #[vp], s') := fun s' => rfl
     have h2 : ∀ s', sUpd 1 0 (.agg #[.slice none 0 0]) (.agg #[vp]) s' = .ok (.agg #[vp], s') := fun s' => by
      have := RepSl.cell hp
      simp [Res.need, this]
     simp only [h1, h2, thn_ok, Res.bind_ok]
     exact ⟨_, rfl, vp, ids, rfl, hp, hm.mono K12.next, K12.n hn, R2⟩
   | true =>
     rw [c, if_pos rfl] at hb
     cases hbk : PS.block f s with
     | none => rw [hbk] at hb; cases hb
     | some x =>
       obtain ⟨b, s2⟩ := x
       rw [hbk] at hb
       simp only at hb
       simp only [condX_eq, cond_true, parse_reader_program_j0_eq hJ]
       refine (block_call hF hT (by omega) R1 hbk).thn fun r ⟨vi, is, e1, e2, e3, e4, e5, e6⟩ => ?_
       rw [e1]
       obtain ⟨r1, s3⟩ := r
       simp only at e1 e2 e4 e5 e6 ⊢
       have K13 := K1.trans e5
       have hi3 : PProg s3 vp l ids := hi.frame fun id hid => K13.get id (hm.at_ id hid).2 (by have := (hm.at_ id hid).1; omega)
       have hm3 : Mine n0 s3 ids := hm.mono K13.next
       have hn1 : n0 ≤ s1.next := Nat.le_trans hn K1.next
       have hpb : PBlock s3 (cB b.label (.slice none 0 0) vi b.last) b is := ⟨.slice none 0 0, vi, [], is, rfl, by rw [e3]; exact RepSl.nil _, e2, rfl⟩
       have hnd : (ids ++ is).Nodup := by
        rw [List.nodup_append]
        refine ⟨hm.nd, e4.nd, fun a ha b hb e => ?_⟩
        subst e
        have := (hm.at_ a ha).2
        have := (e4.at_ a hb).1
        have := K1.next
        omega
       have hro : s3.ro ≤ n0 := by rw [e6.keep.ro]; have := hT.ro; omega
       obtain ⟨v', s5, ids', ap, r5, nd5, at5, fr5, nx5, ro5⟩ := push_own (bytes := 88) (n0 := n0) PBlock.fr hi3 (by decide) hpb rfl (by simp [cB, e2.cell]) hnd (fun id hid => by
        rcases List.mem_append.1 hid with h | h
        ·exact hm3.at_ id h
        ·have := e4.at_ id h; exact ⟨by omega, this.2⟩) (Nat.le_trans hn K13.next) hro (by omega)
       have R5 := RD.frame e6 hT nx5 ro5 hn0 fr5
       have hsty : ∀ l b, sStays l b nothing (fun s => Res.ok (vp, s)) vp = true := fun l b => sStays_same (by rcases hi with ⟨_, _, c, rfl⟩ | ⟨_, _, _, rfl, _⟩ <;> exact sameVal_slice _ _ _)
       have h1 : ∀ s', sField none 0 (.agg #[vp]) s' = .ok (vp, s') := fun s' => rfl
       have h0 : ∀ s', sLref (.agg #[vp]) s' = .ok (nothing, s') := fun s' => rfl
       have h2 : ∀ s', sUpd 1 0 (.agg #[vp]) v' s' = .ok (.agg #[v'], s') := fun s' => (sUpd_one 1 0 [vp] s' r5.tup r5.cells r5.cell).trans (by simp [Res.need])
       simp only [h0, thn_ok, h1, hsty, Res.need_true, Res.bind_ok, sLit_vB, ap, h2, parse_reader_program_j2_eq hJ]
       refine callR (lines_call hF hT R5) fun s6 K6 R6 => ?_
       simp only
       have r6 : PProg s6 v' (l ++ [b]) ids' := RepSl.frame PBlock.fr r5 fun id hid => K6.get id (at5 id hid).2 (by have := (at5 id hid).1; omega)
       have nn : KeepN n0 rb st s6 := ((K13.n hn).trans ⟨nx5, ro5, fun id hi _ => fr5 id hi⟩).trans (K6.n (by have := K13.next; omega))
       refine (ih _ s' _ L s6 v' ids' hb (by simp; omega) (Nat.le_trans hn nn.next) R6 r6 ⟨nd5, fun id hid => ⟨(at5 id hid).1, Nat.lt_of_lt_of_le (at5 id hid).2 K6.next⟩⟩).mono fun r ⟨vp', ids2, e1, e2, e3, e4, e5⟩ => ⟨vp', ids2, e1, e2, e3, nn.trans e4, e5⟩
theorem prog_call (hT : Toks st0 rb vl ts) {st : St} {s s' : PS} {L : Prog} {f : Nat} (hf : f ≤ 100000000) (h : RD st0 st rb vl ts s) (hb : PS.prog f s = some (L, s')) :
 Ok (K.go (.call n_parse_reader_program [P rb 0]) st) fun r => ∃ vp ids, r.1 = .agg #[vp] ∧ PProg r.2 vp L ids ∧ Mine st.next r.2 ids ∧ Keep rb st r.2 ∧ RD st0 r.2 rb vl ts s' := by
 refine parse_reader_program_of hF fun J hJ => ?_
 rw [parse_reader_program_eq]
 have E1 : Ext st st.bump.bump := (Ext.refl st).bump.bump
 simp only [sLnew_eq, thn_ok]
 refine callR (lines_call hF hT (h.mono hT E1)) fun s1 K1 R1 => ?_
 have KK := (E1.keep rb).trans K1
 simp only
 refine (prog_loop hF hJ hT h.keep.next f _ s' [] L s1 (.slice none 0 0) [] hb (by simpa using hf) KK.next R1 (RepSl.nil _) ⟨List.nodup_nil, by simp⟩).mono fun r ⟨vp, ids, e1, e2, e3, e4, e5⟩ => ?_
 have kk := (KK.n (Nat.le_refl _)).trans e4
 exact ⟨vp, ids, e1, e2, e3, ⟨kk.next, kk.ro, kk.get⟩, e5⟩
end
end Go.Proofs.YtdjfndijbnpkpaaDoor.Sh
