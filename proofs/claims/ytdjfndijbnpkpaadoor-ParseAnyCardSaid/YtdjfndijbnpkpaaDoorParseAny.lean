/-
  ParseAny: whatever it is given, the law's function answers true.
-/
import Derived.Test.YtdjfndijbnpkpaaDoorPCnt
import Derived.Test.YtdjfndijbnpkpaaDoorIrPlainOk
import Derived.Test.YtdjfndijbnpkpaaDoorShL9
set_option linter.unusedVariables false
set_option linter.unusedSimpArgs false
set_option linter.unusedSectionVars false
set_option linter.unnecessarySimpa false
set_option maxRecDepth 100000
namespace Go.AM.Lx
theorem next_at (l : List UInt8) (a : Nat) : (next l a).1.at_ = a := by
 unfold next
 (repeat' split) <;> rfl
theorem evs_place : ∀ (n : Nat) (l : List UInt8) (a : Nat), l.length ≤ n → ∀ p ∈ evs l a, p.1.at_ ≤ a + l.length := by
 intro n
 induction n with
 | zero =>
   intro l a hn p hp
   have : l = [] := List.length_eq_zero_iff.1 (by omega)
   subst this
   rw [evs_nil, List.mem_singleton] at hp
   subst hp
   exact Nat.le_add_right _ _
 | succ n ih =>
   intro l a hn p hp
   cases l with
   | nil =>
     rw [evs_nil, List.mem_singleton] at hp
     subst hp
     exact Nat.le_add_right _ _
   | cons c r =>
     simp only [List.length_cons] at hn ⊢
     by_cases c1 : c.toNat = 32
     ·rw [evs_blank r a c1] at hp
      have := ih r (a + 1) (by omega) p hp
      omega
     ·by_cases c2 : c.toNat = 35
      ·rw [evs_note r a c2] at hp
       have h2 := congrArg List.length (List.takeWhile_append_dropWhile (p := fun c : UInt8 => decide (c.toNat ≠ 10)) (l := r))
       rw [List.length_append] at h2
       have := ih _ _ (by omega) p hp
       omega
      ·by_cases hz : (next (c :: r) a).2 = 0
       ·rw [evs_bad c1 c2 hz, List.mem_singleton] at hp
        subst hp
        exact Nat.le_add_right _ _
       ·rw [evs_tok c1 c2 hz] at hp
        have hle := next_le (c :: r) a
        simp only [List.length_cons] at hle
        rcases List.mem_cons.1 hp with rfl | hp
        ·simp only [next_at]; omega
        ·have := ih ((c :: r).drop (next (c :: r) a).2) (a + (next (c :: r) a).2) (by rw [List.length_drop]; simp only [List.length_cons]; omega) p hp
         rw [List.length_drop] at this
         simp only [List.length_cons] at this
         omega
theorem split_place {B : Nat} : ∀ {l : List Ev}, (∀ p ∈ l, p.1.at_ ≤ B) → (∀ t ∈ (split l).1, t.at_ ≤ B) ∧ (split l).2.1 ≤ B := by
 intro l
 induction l with
 | nil => intro _; exact ⟨fun t ht => (nomatch ht), Nat.zero_le _⟩
 | cons p l ih =>
   intro h
   obtain ⟨t, e⟩ := p
   have ht := h _ (List.mem_cons_self ..)
   obtain ⟨h1, h2⟩ := ih fun q hq => h q (List.mem_cons_of_mem _ hq)
   rw [split_cons]
   split
   ·split
    ·refine ⟨fun u hu => ?_, Nat.zero_le _⟩
     rcases List.mem_cons.1 hu with rfl | hu
     ·exact ht
     ·exact h1 u hu
    ·exact ⟨h1, h2⟩
   ·exact ⟨fun t ht => (nomatch ht), ht⟩
theorem split_cnt : ∀ l : List Ev, (split l).1.length ≤ l.length := by
 intro l
 induction l with
 | nil => exact Nat.le_refl _
 | cons p l ih =>
   obtain ⟨t, e⟩ := p
   rw [split_cons]
   split
   ·split
    ·simp only [List.length_cons]; omega
    ·simp only [List.length_cons]; omega
   ·exact Nat.zero_le _
end Go.AM.Lx
namespace Go.Proofs.YtdjfndijbnpkpaaDoor.Sh
open Go Go.AM Go.Proofs Go.AM.Lx
theorem plain_of {p : Prog} (h : ∀ b ∈ p, b.phis = []) : plain p = true := by
 unfold plain
 rw [List.all_eq_true]
 intro b hb
 rw [h b hb]
 rfl
structure AnyP (s : List UInt8) (q : Prog) (a : Nat) (e : Int) : Prop where
 ok : e = 0 → check q = 0 ∧ a = 0 ∧ (∀ b ∈ q, b.phis = []) ∧ (∀ b ∈ q, b.Good) ∧ (rdP q).length ≤ (split (events s)).1.length + 1
 no : e ≠ 0 → q = []
 place : a ≤ s.length
 lex : (split (events s)).2.2 ≠ 0 → e = (split (events s)).2.2 ∧ a = (split (events s)).2.1
def xsA : List Rd := [rLab 3, rSign 58, rLine, rReg 2, rSign 61, rNum 7, rWord [97, 100, 100], rSign 44, rWord [106, 117, 109, 112], rWord [98, 114], rSlot 1, rWord [105, 110], rWord [111, 117, 116], rWord [114, 101, 116], rReg 100000, rLab 100000, rSlot 16]
theorem xsA_txt : txs xsA = [T [64, 51], T [58], T [10], T [37, 50], T [61], T [55], T [97, 100, 100], T [44], T [106, 117, 109, 112], T [98, 114], T [36, 49], T [105, 110], T [111, 117, 116], T [114, 101, 116], T [37, 49, 48, 48, 48, 48, 48], T [64, 49, 48, 48, 48, 48, 48], T [36, 49, 54]] := by
 have h3 : Lib.itoa 3 = [51] := by decide +kernel
 have h2 : Lib.itoa 2 = [50] := by decide +kernel
 have h7 : Lib.itoa 7 = [55] := by decide +kernel
 have h1 : Lib.itoa 1 = [49] := by decide +kernel
 have hb : Lib.itoa 100000 = [49, 48, 48, 48, 48, 48] := by decide +kernel
 have hs : Lib.itoa 16 = [49, 54] := by decide +kernel
 simp only [txs, xsA, List.map_cons, List.map_nil, rLab, rReg, rSlot, rNum, rSign, rWord, rLine, h3, h2, h7, h1, hb, hs]
theorem xsA_items : ∀ p ∈ xsA, Item p := by
 intro p hp
 simp only [xsA, List.mem_cons, List.not_mem_nil, or_false] at hp
 rcases hp with rfl | rfl | rfl | rfl | rfl | rfl | rfl | rfl | rfl | rfl | rfl | rfl | rfl | rfl | rfl | rfl | rfl
 ·exact item_lab (by decide)
 ·exact item_sign (by decide)
 ·exact item_line
 ·exact item_reg (by decide)
 ·exact item_sign (by decide)
 ·exact item_num (by unfold fitN; decide)
 ·exact item_word (by decide) (by decide) (by decide)
 ·exact item_sign (by decide)
 ·exact item_word (by decide) (by decide) (by decide)
 ·exact item_word (by decide) (by decide) (by decide)
 ·exact item_slot (by decide)
 ·exact item_word (by decide) (by decide) (by decide)
 ·exact item_word (by decide) (by decide) (by decide)
 ·exact item_word (by decide) (by decide) (by decide)
 ·exact item_reg (by decide)
 ·exact item_lab (by decide)
 ·exact item_slot (by decide)
theorem lay_cnt {l : List Rd} {ts : List Tok} (h : Lay l ts) : ts.length ≤ 2 * l.length := by
 induction h with
 | nil => simp
 | cons _ _ ih => simp only [List.length_cons]; omega
 | dbl _ _ _ _ ih => simp only [List.length_cons]; omega
theorem toks_to2 {n0 : Nat} {st : St} {v : Value} {l : List Rd} (h : Own n0 st 1 v (txs l)) {k : Nat} (hk : k ≤ l.length) : ∃ v', sameVal v' v' = true ∧ ∀ s', Ext st s' → sSlice (.slice 1) v none (some (I k)) none s' = .ok (v', s') ∧ RSl (Rng n0 s'.next) s' 1 RRd v' (l.take k) := by
 rcases h with ⟨h0, c, rfl⟩ | ⟨b, n, rfl, h2, h3, h4, h5⟩
 ·have : l = [] := by simpa [txs] using h0
  subst this
  have : k = 0 := by simpa using hk
  subst this
  refine ⟨.slice none 0 1, by simp [sameVal, sameOne, sameCell], fun s' hE => ⟨?_, by simpa using RSl.nil _ _ _ _ _⟩⟩
  simp [sSlice, aslice, Res.need, boundO, bound]
 ·have hl : (txs l).length = l.length := by simp [txs]
  have hn : n = l.length := by omega
  subst hn
  refine ⟨Sl b 0 k 1, by simp [sameVal, sameOne, sameCell], fun s' hE => ?_⟩
  have h3 : s'.get b = some (.cells (txs l)) := by rw [hE.get b h5]; exact h3
  refine ⟨?_, .inr ⟨b, 0, txs l, by rw [List.length_take, Nat.min_eq_left hk], ⟨h4, Nat.lt_of_lt_of_le h5 hE.next⟩, h3, by rw [List.length_take]; omega, fun i p hp => ?_⟩⟩
  ·simp [sSlice, aslice, cells_eq h3, Res.need, boundO, bound, hl, hk]
  ·rw [Nat.zero_add, Nat.mul_one]
   rw [List.getElem?_take] at hp
   split at hp
   ·exact txs_at hp
   ·cases hp
theorem toks_from2 {n0 : Nat} {st : St} {v : Value} {l : List Rd} (h : Own n0 st 1 v (txs l)) {k : Nat} (hk : k ≤ l.length) : ∃ v', sameVal v' v' = true ∧ ∀ s', Ext st s' → sSlice (.slice 1) v (some (I k)) none none s' = .ok (v', s') ∧ RSl (Rng n0 s'.next) s' 1 RRd v' (l.drop k) := by
 rcases h with ⟨h0, c, rfl⟩ | ⟨b, n, rfl, h2, h3, h4, h5⟩
 ·have : l = [] := by simpa [txs] using h0
  subst this
  have : k = 0 := by simpa using hk
  subst this
  refine ⟨.slice none 0 1, by simp [sameVal, sameOne, sameCell], fun s' hE => ⟨?_, by simpa using RSl.nil _ _ _ _ _⟩⟩
  simp [sSlice, aslice, Res.need, boundO, bound]
 ·have hl : (txs l).length = l.length := by simp [txs]
  have hn : n = l.length := by omega
  subst hn
  refine ⟨Sl b k (l.length - k) 1, by simp [sameVal, sameOne, sameCell], fun s' hE => ?_⟩
  have h3 : s'.get b = some (.cells (txs l)) := by rw [hE.get b h5]; exact h3
  refine ⟨?_, .inr ⟨b, k, txs l, by rw [List.length_drop], ⟨h4, Nat.lt_of_lt_of_le h5 hE.next⟩, h3, by rw [List.length_drop]; omega, fun i p hp => ?_⟩⟩
  ·simp [sSlice, aslice, cells_eq h3, Res.need, boundO, bound, hl, hk]
  ·rw [Nat.mul_one]
   rw [List.getElem?_drop] at hp
   exact txs_at hp
theorem rsl_first {A : Nat → Prop} {st : St} {v : Value} {l : List Rd} (h : RSl A st 1 RRd v l) : lenL v = .ok l.length ∧ firstL st 1 l.length v = .ok (txs l) := by
 rcases h with ⟨rfl, c, rfl⟩ | ⟨b, o, xs, rfl, _, h2, h3, h4⟩
 ·exact ⟨rfl, rfl⟩
 ·have hneed : ∀ {b : Bool} {t : String}, b = true → Res.need b t = .ok () := fun h => by subst h; rfl
  refine ⟨rfl, ?_⟩
  simp only [firstL, hneed (decide_eq_true (rfl : 1 = 1)), Res.bind_ok, St.loadN, cells_eq h2, hneed (decide_eq_true h3)]
  refine congrArg Res.ok (List.ext_getElem? fun i => ?_)
  rw [List.getElem?_take]
  by_cases hi : i < l.length
  ·have := h4 i _ (List.getElem?_eq_getElem hi)
   rw [if_pos (by omega)]
   have e : ((xs.drop (o + i * 1)).take 1)[0]? = some (T l[i].1) := by rw [this]; rfl
   rw [List.getElem?_take, if_pos (by decide), List.getElem?_drop] at e
   rw [List.getElem?_drop]
   have e2 : o + i * 1 + 0 = o + i := by omega
   rw [e2] at e
   rw [e]
   unfold txs
   rw [List.getElem?_map, List.getElem?_eq_getElem hi]
   rfl
  ·rw [if_neg (by omega)]
   unfold txs
   rw [List.getElem?_map, List.getElem?_eq_none (by omega)]
   rfl
theorem txs_app (a b : List Rd) : txs (a ++ b) = txs a ++ txs b := List.map_append
theorem txs_len (l : List Rd) : (txs l).length = l.length := List.length_map ..
variable {K : Ctx} (hF : Fix pgF K)
include hF
theorem Parse_any {s : List UInt8} (hs : s.length ≤ 100000) {st : St} (hv : VOk st) : Ok (K.go (.call n_parse_Parse [T s]) st) fun r => ∃ q a e, AnyP s q a e ∧ ParsePost st q a e r := by
 have hev : ∀ p ∈ events s, p.1.at_ ≤ s.length := by
  unfold events
  rw [if_neg (by omega)]
  intro p hp
  have := evs_place s.length s 0 (Nat.le_refl _) p hp
  omega
 obtain ⟨hpl, hpk⟩ := split_place hev
 by_cases h0 : (split (events s)).2.2 = 0
 ·have hsp := split_zero (events s) h0
  generalize hts : (split (events s)).1 = ts at *
  obtain ⟨l1, l2, l3, l4⟩ := split_toksOk hsp
  obtain ⟨r, hr, hst⟩ := PS.prog_some (ts := ts) (f := 200000) (by omega)
  have hb := PS.prog_base hr l3
  have hph := PS.prog_phis hr
  have hat := hst.at_ s.length hpl (Nat.zero_le _)
  refine (Parse_out hF hs hsp (by omega) hr (by omega) hv).mono fun q hq => ?_
  by_cases he : r.2.err = 0
  ·by_cases hc : check r.1 = 0
   ·have h1 : outP r.1 r.2.err = r.1 := by unfold outP; rw [if_pos ⟨he, hc⟩]
    have h2 : outE r.1 r.2.err = 0 := by unfold outE; rw [if_pos he, hc]
    rw [h1, h2, if_neg (fun h => h he), if_pos hc] at hq
    exact ⟨r.1, 0, 0, ⟨fun _ => ⟨hc, rfl, hph, good_check hc hb, by rw [hts]; exact PS.prog_len hr he⟩, fun h => absurd rfl h, Nat.zero_le _, fun h => absurd h0 h⟩, hq⟩
   ·have h1 : outP r.1 r.2.err = [] := by unfold outP; rw [if_neg (fun h => hc h.2)]
    have h2 : outE r.1 r.2.err = check r.1 := by unfold outE; rw [if_pos he]
    rw [h1, h2, if_neg (fun h => h he), if_neg hc] at hq
    exact ⟨[], s.length, check r.1, ⟨fun h => absurd h hc, fun _ => rfl, Nat.le_refl _, fun h => absurd h0 h⟩, hq⟩
  ·have h1 : outP r.1 r.2.err = [] := by unfold outP; rw [if_neg (fun h => he h.1)]
   have h2 : outE r.1 r.2.err = r.2.err := by unfold outE; rw [if_neg he]
   rw [h1, h2, if_pos he] at hq
   exact ⟨[], r.2.at_, r.2.err, ⟨fun h => absurd h he, fun _ => rfl, hat, fun h => absurd h0 h⟩, hq⟩
 ·refine (Parse_all hF (by unfold Short; omega) hv (fun _ => ⟨rfl, rfl, rfl⟩) (fun h => absurd h h0)).mono fun q hq => ?_
  exact ⟨[], _, _, ⟨fun h => absurd h h0, fun _ => rfl, hpk, fun _ => ⟨rfl, rfl⟩⟩, hq⟩
end Go.Proofs.YtdjfndijbnpkpaaDoor.Sh
namespace Go.Proofs.YtdjfndijbnpkpaaDoor.Sh
open Go Go.AM Go.Proofs Go.AM.Lx
variable {K : Ctx} (hF : Fix pgF K)
include hF
theorem PA_one {J} (hJ : IsJ K (retK refinerylaw05_ParseAny_c.results) J) {s : List UInt8} (hs : s.length ≤ 100000) (hts : (split (events s)).1.length ≤ 4300) {st : St} (hv : VOk st) {v89 v90 v91 : Value} {b o : Nat} (hix : sIxA 1 none v89 v91 st = .ok (P b o, st)) (hld : st.load1 b o = .ok (T s)) {Q : Value × St → Prop}
 (hQ : ∀ st', Ext st st' → Ok (refinerylaw05_ParseAny_j7 J v89 v90 v91 st') Q) : Ok (refinerylaw05_ParseAny_j3 J v89 v90 v91 st) Q := by
 rw [refinerylaw05_ParseAny_j3_eq hJ]
 simp only [hix, thn_ok, sLoad1, hld, Res.bind_ok]
 refine (Parse_any hF hs hv).thn fun ⟨r1, s1⟩ ⟨q, a, e, hA, vp, ids, e1, m2, m3, E1⟩ => ?_
 simp only at e1 m2 m3 E1
 subst e1
 have hx1 : ∀ {a b c : Value} s', sExtract (.tuple #[a, b, c]) 0 s' = .ok (a, s') ∧ sExtract (.tuple #[a, b, c]) 1 s' = .ok (b, s') ∧ sExtract (.tuple #[a, b, c]) 2 s' = .ok (c, s') := fun s' => ⟨rfl, rfl, rfl⟩
 have hup : ∀ {n : Nat} {α : Type} {R : Rep α} {s0 s' : St} {v : Value} {l : List α} {ids : List Nat}, RepSl n R s0 v l ids → sUpd 1 0 (.agg #[.slice none 0 0]) (.agg #[v]) s' = .ok (.agg #[v], s') := fun h => by simp [Res.need, RepSl.cell h]
 have hf1 : ∀ (v : Value) s', sField (some 1) 0 (.agg #[v]) s' = .ok (.agg #[v], s') := fun v s' => rfl
 have hf0 : ∀ (v : Value) s', sField none 0 (.agg #[v]) s' = .ok (v, s') := fun v s' => rfl
 have hb1 : (false == false) = true := rfl
 have hb2 : (true == false) = false := rfl
 have hb3 : (false == true) = false := rfl
 have hb4 : (true == true) = true := rfl
 have E2 : Ext s1 s1.bump := (Ext.refl s1).bump
 have X2 := E1.trans E2
 have q2 : PProg s1.bump vp q ids := m2.frame fun id hid => E2.get _ (m3.at_ id hid).2
 have hid2 : ∀ id ∈ ids, id < s1.bump.next := fun id hid => Nat.lt_of_lt_of_le (m3.at_ id hid).2 E2.next
 simp only [(hx1 _).1, (hx1 _).2.1, (hx1 _).2.2, thn_ok, sLnew_eq, hup m2, sEql, condX_eq]
 by_cases he : e = 0
 ·obtain ⟨hc, ha, hph, hg, hlen⟩ := hA.ok he
  subst ha
  obtain ⟨c1, c2, c3, c4, c5⟩ := check_parts hc
  have hrd := rdP_len q
  have hcr := PS.count_rd q hph
  have hit := items_len (items_P hg)
  have htl := textG_nil_len (i := 0) hit
  simp only [decide_eq_true he, cond_true, hf1, thn_ok]
  refine TokText_ok hF hid2 q2.read hg (by omega) (X2.roOk hv.ro) fun vt n0 s3 hn0 o3 E3 => ?_
  have X3 := X2.trans E3
  have hnil : RSl (Bel st.next) s3 1 (fun cs (n : Int) => cs = [U n]) (.slice none 0 0) [] := .inl ⟨rfl, 0, rfl⟩
  simp only [thn_ok]
  refine (Text_ok hF (fun id hid => hid.2) (fun id (hid : id < st.next) => Nat.lt_of_lt_of_le hid X3.next) (rsl_toks o3) hnil (by simp) (X3.roOk hv.ro) hit (by omega) (by simp)).call fun s4 E4 => ?_
  have X4 := X3.trans E4
  refine (Parse_text hF hg hc (by omega) (by omega) (hv.mono X4)).thn fun ⟨r1, s5⟩ ⟨vq, is, e1, k2, k3, E5⟩ => ?_
  simp only at e1 k2 k3 E5
  subst e1
  have E6 : Ext s5 s5.bump := (Ext.refl s5).bump
  have E26 := ((E3.trans E4).trans E5).trans E6
  have X6 := X2.trans E26
  have q6 : PProg s5.bump vp q ids := q2.frame fun id hid => E26.get _ (hid2 id hid)
  have r6 : PProg s5.bump vq q is := k2.frame fun id hid => E6.get _ (k3.at_ id hid).2
  simp only [(hx1 _).1, (hx1 _).2.1, (hx1 _).2.2, thn_ok, sLnew_eq, hup k2, hf1]
  have hi6 : ∀ id ∈ ids, id < s5.bump.next := fun id hid => Nat.lt_of_lt_of_le (hid2 id hid) E26.next
  refine (Check_ok hF hi6 q6.read (by omega) (fun b hb => by rw [hph b hb]; simp) (X6.roOk hv.ro)).call fun s7 E7 => ?_
  have X7 := X6.trans E7
  have q7 : PProg s7 vp q ids := q6.frame fun id hid => E7.get _ (hi6 id hid)
  have r7 : PProg s7 vq q is := r6.frame fun id hid => E7.get _ (Nat.lt_of_lt_of_le (k3.at_ id hid).2 E6.next)
  have z0 : (!decide ((0 : Int) = 0)) = false := rfl
  simp only [sNeq, hc, decide_true, Bool.not_true, thn_ok, sG_eq, hb1, cond_true, hf1]
  refine (Plain_ok hF (fun id hid => Nat.lt_of_lt_of_le (hi6 id hid) E7.next) q7.read (by omega) (fun b hb => by rw [hph b hb]; simp)).call fun s8 E8 => ?_
  have X8 := X7.trans E8
  have E78 := E7.trans E8
  have q8 : PProg s8 vp q ids := q6.frame fun id hid => E78.get _ (hi6 id hid)
  have r8 : PProg s8 vq q is := r6.frame fun id hid => E78.get _ (Nat.lt_of_lt_of_le (k3.at_ id hid).2 E6.next)
  simp only [thn_ok, plain_of hph, sUn_not, Bool.not_true, sPick_eq, Bool.false_eq_true, if_false, sG_eq, hb1, cond_true, sNeq, decide_true, hf1, Int.natCast_zero]
  refine (Same_ok hF (A := fun id => id ∈ ids) (A' := fun id => id ∈ is) (st := s8) (fun id hid => Nat.lt_of_lt_of_le (hi6 id hid) E78.next) (fun id hid => Nat.lt_of_lt_of_le (k3.at_ id hid).2 (E6.trans E78).next) q8.read r8.read (by omega) (fun b hb => by
   have := count_mem hb
   exact ⟨by rw [hph b hb]; simp, by omega, by rw [hph b hb]; simp⟩)).call fun s9 E9 => ?_
  simp only [decide_true, thn_ok, sUn_not, Bool.not_true, sPick_eq, Bool.false_eq_true, if_false, condX_eq, cond_false, refinerylaw05_ParseAny_j5_eq hJ]
  exact hQ s9 (X8.trans E9)
 ·have hq := hA.no he
  subst hq
  have hl0 : ∀ s', sLen .slice vp s' = .ok (I 0, s') := RepSl.len m2
  have hpl := hA.place
  have z1 : decide ((0 : Int) > 0) = false := rfl
  have z2 : decide ((a : Int) < 0) = false := decide_eq_false (by omega)
  have z3 : decide ((a : Int) > (s.length : Int)) = false := decide_eq_false (by omega)
  simp only [decide_eq_false he, cond_false, refinerylaw05_ParseAny_j6_eq hJ, sLref_agg, hf0, hl0, thn_ok, sGtr, z1, sG_eq, hb1, cond_true, sLss, z2, sPick_eq, Bool.false_eq_true, if_false, sLen_T, z3, condX_eq, refinerylaw05_ParseAny_j8_eq hJ]
  refine (Split_ok hF (by unfold Short; omega) (hv.mono X2)).thn fun ⟨r1, s3⟩ ⟨vl, is, e1, E3, _⟩ => ?_
  simp only at e1 E3
  subst e1
  have X3 := X2.trans E3
  simp only [(hx1 _).1, (hx1 _).2.1, (hx1 _).2.2, thn_ok, sNeq]
  by_cases h0 : (split (events s)).2.2 = 0
  ·simp only [h0, decide_true, Bool.not_true, sG_eq, hb3, cond_false, thn_ok, sG_skip, sPick_eq, Bool.false_eq_true, if_false, condX_eq]
   exact hQ s3 X3
  ·obtain ⟨k1, k2⟩ := hA.lex h0
   have w1 : (!decide ((split (events s)).2.2 = 0)) = true := by rw [decide_eq_false h0]; rfl
   simp only [k1, k2, w1, sG_eq, hb4, cond_true, thn_ok, decide_true, Bool.not_true, hb1, sNeq, sPick_eq, Bool.false_eq_true, if_false, if_true, condX_eq, cond_false]
   exact hQ s3 X3
theorem PA_loop {J} (hJ : IsJ K (retK refinerylaw05_ParseAny_c.results) J) {xs : List (List UInt8)} (hxs : ∀ s ∈ xs, s.length ≤ 100000 ∧ (split (events s)).1.length ≤ 4300) (hn : xs.length ≤ 3) {b : Nat} : ∀ (d i : Nat) (st : St), i + d = xs.length → VOk st → st.get b = some (.cells (xs.map T)) → b < st.next →
 Ok (refinerylaw05_ParseAny_l0 J (Sl b 0 xs.length 1) (I xs.length) (I i) st) fun r => r.1 = B true := by
 intro d
 induction d with
 | zero =>
   intro i st hi hv hg hb
   refine refinerylaw05_ParseAny_l0_of hF hJ ?_
   rw [refinerylaw05_ParseAny_l0_eq]
   have hlt : decide ((i : Int) < (xs.length : Int)) = false := decide_eq_false (by omega)
   simp only [sLss, hlt, thn_ok, condX_eq, cond_false, refinerylaw05_ParseAny_j4_eq hJ]
   exact ⟨(B true, st), rfl, rfl⟩
 | succ d ih =>
   intro i st hi hv hg hb
   refine refinerylaw05_ParseAny_l0_of hF hJ ?_
   rw [refinerylaw05_ParseAny_l0_eq]
   have hlt : decide ((i : Int) < (xs.length : Int)) = true := decide_eq_true (by omega)
   have hix : i < xs.length := by omega
   simp only [sLss, hlt, thn_ok, condX_eq, cond_true]
   have hx := List.getElem?_eq_getElem hix
   obtain ⟨g1, g2⟩ := hxs _ (List.getElem_mem hix)
   refine PA_one hF hJ (s := xs[i]) g1 g2 hv (b := b) (o := i) (by simp [sIxA, index, Res.need, hix]) (by rw [load1_def, hg]; simp [hx, Res.of]) fun st' hE => ?_
   have wi : IntKind.i64.wrap ((i : Int) + 1) = ((i + 1 : Nat) : Int) := by rw [wrap_id (by omega)]; omega
   rw [refinerylaw05_ParseAny_j7_eq hJ]
   simp only [sAdd, wi, thn_ok]
   exact ih (i + 1) st' (by omega) (hv.mono hE) (by rw [hE.get b hb]; exact hg) (Nat.lt_of_lt_of_le hb hE.next)
theorem ev_cnt (s : List UInt8) (h : s.length ≤ 100000) : (split (events s)).1.length ≤ s.length + 1 := by
 have h1 := split_cnt (events s)
 have h2 := evs_len s.length s 0 (Nat.le_refl _)
 unfold events at h1 ⊢
 rw [if_neg (by omega)] at h1 ⊢
 omega
theorem PA_rest {J} (hJ : IsJ K (retK refinerylaw05_ParseAny_c.results) J) {raw : List UInt8} (hr : raw.length ≤ 200) {l : List Rd} (hl : ∀ p ∈ l, Item p) (hn : l.length ≤ 2001) {st : St} (hv : VOk st) {n0 : Nat} {v11 : Value} (ho : RSl (Rng n0 st.next) st 1 RRd v11 l) : Ok (refinerylaw05_ParseAny_j2 J (T raw) v11 st) fun r => r.1 = B true := by
 rw [refinerylaw05_ParseAny_j2_eq hJ]
 have hit := items_len hl
 have htl := textG_nil_len (i := 0) hit
 have hnil : RSl (Bel st.next) st 1 (fun cs (n : Int) => cs = [U n]) (.slice none 0 0) [] := .inl ⟨rfl, 0, rfl⟩
 refine (Text_ok hF (fun id hid => hid.2) (fun id hid => hid) ho hnil (by simp) hv.ro hit (by omega) (by simp)).call fun s1 E1 => ?_
 have a1 : ∀ s', sBin .add (T [64, 48, 58, 10]) (T raw) s' = .ok (T ([64, 48, 58, 10] ++ raw), s') := fun s' => sAdd_T _ _ _ (by simp only [List.length_cons, List.length_nil]; omega)
 have a2 : ∀ s', sBin .add (T ([64, 48, 58, 10] ++ raw)) (T [10, 116, 114, 97, 112]) s' = .ok (T ([64, 48, 58, 10] ++ raw ++ [10, 116, 114, 97, 112]), s') := fun s' => sAdd_T _ _ _ (by simp only [List.length_append, List.length_cons, List.length_nil]; omega)
 simp only [T_bstr, thn_ok, a1, a2, lit3]
 have hlen3 : ∀ (b : Nat) s', sLen .slice (Sl b 0 3 1) s' = .ok (I 3, s') := fun b s' => rfl
 simp only [hlen3, thn_ok]
 have htx : (split (events (textG [] l 0))).1.length ≤ 4300 := by
  obtain ⟨ts, y1, y2⟩ := split_lay2 (gs := []) hl (by omega)
  rw [y2]
  have := lay_cnt y1
  rw [List.length_append, List.length_singleton]
  omega
 have h3 : ([64, 48, 58, 10] ++ raw ++ [10, 116, 114, 97, 112]).length ≤ 210 := by simp only [List.length_append, List.length_cons, List.length_nil]; omega
 have E2 : Ext s1 (s1.alloc (.cells [T raw, T (textG [] l 0), T ([64, 48, 58, 10] ++ raw ++ [10, 116, 114, 97, 112])])) := (Ext.refl s1).alloc _
 exact PA_loop hF hJ (xs := [raw, textG [] l 0, [64, 48, 58, 10] ++ raw ++ [10, 116, 114, 97, 112]]) (fun s hs => by
  simp only [List.mem_cons, List.not_mem_nil, or_false] at hs
  rcases hs with rfl | rfl | rfl
  ·have := ev_cnt hF s (by omega); exact ⟨by omega, by omega⟩
  ·exact ⟨by omega, htx⟩
  ·have := ev_cnt hF _ (Nat.le_trans h3 (by decide)); exact ⟨by omega, by omega⟩) (by simp) 3 0 _ rfl (hv.mono (E1.trans E2)) (by rw [get_alloc, if_pos rfl]; rfl) (Nat.lt_succ_self _)
end Go.Proofs.YtdjfndijbnpkpaaDoor.Sh
namespace Go.Proofs.YtdjfndijbnpkpaaDoor.Sh
open Go Go.AM Go.Proofs Go.AM.Lx
variable {K : Ctx} (hF : Fix pgF K)
include hF
omit hF in
theorem need_go {X : Bool} {t : String} {Y : Res (Value × St)} {Q : Value × St → Prop} (h : X = true) (k : Ok Y Q) : Ok (Res.need X t >>= fun _ => Y) Q := by subst h; exact k
omit hF in
theorem stays1 {s1 : St} {base : Nat} {x v : Value} {run : St → Res (Value × St)} (h : run s1 = .ok (v, s1)) (hv : sameVal v v = true) : sStays (List.take 1 (s1 :: [])) base x run v = true := by
 unfold sStays
 simp [h, hv]
omit hF in
theorem stays2 {s1 s2 : St} {base : Nat} {x v : Value} {run : St → Res (Value × St)} (h : run s1 = .ok (v, s1)) (h2 : run s2 = .ok (v, s2)) (hv : sameVal v v = true) : sStays (List.take 2 (s1 :: (s2 :: []))) base x run v = true := by
 unfold sStays
 simp [h, h2, hv]
theorem ParseAny_ok {s : Small} (hs : s.Ok) {raw : List UInt8} {v : Value} {st : St} (hR : RSmall (Bel st.next) st v s) (hn : s.blocks.length < 2 ^ 62) {c y z : Int} (hc : 0 ≤ c ∧ c ≤ 65535) (hy : 0 ≤ y ∧ y ≤ 255) (hz : 0 ≤ z ∧ z ≤ 255) (hv : VOk st) : Ok (K.go (.call n_refinerylaw05_ParseAny [T raw, v, .int .u16 c, U y, U z]) st) fun r => r.1 = B true := by
 refine refinerylaw05_ParseAny_of hF fun J hJ => ?_
 rw [refinerylaw05_ParseAny_eq]
 have hbx : ∀ s', sLbox v s' = .ok (v, s'.bump) := by obtain ⟨vb, rfl, _⟩ := hR; exact fun s' => rfl
 have hf3 : ∀ s', sField (some 3) 0 v s' = .ok (v, s') := by obtain ⟨vb, rfl, _⟩ := hR; exact fun s' => rfl
 have E0 : Ext st st.bump := (Ext.refl st).bump
 simp only [hbx, thn_ok]
 refine (Awake05_ok hF (hv.mono E0)).call fun s1 E1 => ?_
 have X1 := E0.trans E1
 have hA : ∀ {s'}, Ext st s' → ∀ id, Bel st.next id → id < s'.next := fun hE id h => Nat.lt_of_lt_of_le h hE.next
 simp only [sUn_not, Bool.not_true, thn_ok, condX_eq, cond_false, refinerylaw05_ParseAny_j0_eq hJ, hf3]
 refine (Light_ok hF (hA X1) (hR.mono (X1.agree fun _ h => h)) hn).call fun s2 E2 => ?_
 have X2 := X1.trans E2
 cases hl : s.light with
 | false => simp
 | true =>
 have hb1 : (false == false) = true := rfl
 simp only [sUn_not, Bool.not_true, thn_ok, sG_eq, hb1, cond_true, sLen_T, sGtr, sPick_eq, Bool.false_eq_true, if_false, condX_eq]
 by_cases h200 : (200 : Int) < raw.length
 ·have : decide ((raw.length : Int) > 200) = true := decide_eq_true h200
  simp [h200]
 have h200' : decide ((raw.length : Int) > 200) = false := decide_eq_false h200
 simp only [h200', cond_false, refinerylaw05_ParseAny_j1_eq hJ, hf3, thn_ok]
 refine (Program_ok hF (X2.roOk hv.ro) hs hl (hA X2) (hR.mono (X2.agree fun _ h => h))).thn fun ⟨r1, s3⟩ ⟨vp, ids, e1, e2, e3, e4, e5⟩ => ?_
 simp only at e1 e2 e4 e5
 subst e1
 have X3 := X2.trans e5
 have hg4 := small_good hs hl
 have hcn := small_count hs hl
 have hpne := small_ne hs hl
 have hrl := rdP_len s.prog
 simp only [thn_ok]
 refine TokText_ok hF (fun id hid => (e4 id hid).2) e2.read hg4 (by omega) (X3.roOk hv.ro) fun vt n0 s5 hn0 o5 E5 => ?_
 have X5 := X3.trans E5
 have hitems := items_P hg4
 have hl0 : 0 < (rdP s.prog).length := by
  cases hp : s.prog with
  | nil => exact absurd hp hpne
  | cons b p => exact List.length_pos_iff.2 (by unfold rdP rdB; simp)
 generalize rdP s.prog = l at *
 have hlt : ∀ s', sLen .slice vt s' = .ok (I l.length, s') := (rsl_toks o5).len
 have c1 : ∀ s', sConv (.int .i64) (.int .u16 c) s' = .ok (I c, s') := fun s' => by simp [wrap_id (n := c) (by omega)]
 have hne0 : ((l.length : Nat) : Int) ≠ 0 := by omega
 obtain ⟨k, hk1, hk2⟩ : ∃ k : Nat, c.tmod (l.length : Int) = k ∧ k < l.length := by
  refine ⟨(c % (l.length : Int)).toNat, ?_, ?_⟩
  ·rw [Int.tmod_eq_emod_of_nonneg hc.1]
   have := Int.emod_nonneg c hne0
   omega
  ·have := Int.emod_nonneg c hne0
   have := Int.emod_lt_of_pos c (show 0 < (l.length : Int) by omega)
   omega
 obtain ⟨m, hm1, hm2⟩ : ∃ m : Nat, y.tmod 17 = m ∧ m < 17 := by
  refine ⟨(y % 17).toNat, ?_, ?_⟩
  ·rw [Int.tmod_eq_emod_of_nonneg hy.1]; omega
  ·omega
 obtain ⟨w, hw1⟩ : ∃ w : Int, z.tmod 3 = w := ⟨_, rfl⟩
 have hneed : ∀ {b : Bool} {t : String}, b = true → Res.need b t = .ok () := fun h => by subst h; rfl
 have hx17 : xsA.length = 17 := rfl
 have hlit : ∀ s', sLit 1 17 [T [], T [], T [], T [], T [], T [], T [], T [], T [], T [], T [], T [], T [], T [], T [], T [], T []] [(0, 1, T [64, 51]), (1, 1, T [58]), (2, 1, T [10]), (3, 1, T [37, 50]), (4, 1, T [61]), (5, 1, T [55]), (6, 1, T [97, 100, 100]), (7, 1, T [44]), (8, 1, T [106, 117, 109, 112]), (9, 1, T [98, 114]), (10, 1, T [36, 49]), (11, 1, T [105, 110]), (12, 1, T [111, 117, 116]), (13, 1, T [114, 101, 116]), (14, 1, T [37, 49, 48, 48, 48, 48, 48]), (15, 1, T [64, 49, 48, 48, 48, 48, 48]), (16, 1, T [36, 49, 54])] s' = .ok (Sl s'.next 0 17 1, s'.alloc (.cells (txs xsA))) := fun s' => by rw [xsA_txt]; rfl
 have E6 : Ext s5 (s5.alloc (.cells (txs xsA))) := (Ext.refl s5).alloc _
 have g6 : (s5.alloc (.cells (txs xsA))).get s5.next = some (.cells (txs xsA)) := by rw [get_alloc, if_pos rfl]
 simp only [c1, thn_ok, hlt, sRem _ _ _ hne0, hk1, T_bstr, hlit]
 generalize s5.alloc (.cells (txs xsA)) = s6 at *
 have X6 := X5.trans E6
 have o6 := o5.mono E6
 have hixa : ∀ s', sIxA 1 none (Sl s5.next 0 17 1) (.int .u8 (m : Int)) s' = .ok (P s5.next m, s') := fun s' => by simp [sIxA, index, Res.need, hm2, show (m : Int) < 17 by omega]
 have hxm : xsA[m]? = some xsA[m] := List.getElem?_eq_getElem (by omega)
 have hxi : Item xsA[m] := xsA_items _ (List.getElem_mem _)
 have hld : s6.load1 s5.next m = .ok (T xsA[m].1) := by
  have hy : (txs xsA)[m]? = some (T xsA[m].1) := by unfold txs; rw [List.getElem?_map, hxm]; rfl
  rw [load1_def, g6]
  simp only []
  rw [hy]; rfl
 generalize xsA[m] = x at *
 have hr6 := X6.roOk hv.ro
 have hraw : raw.length ≤ 200 := by omega
 have hll : l.length ≤ 2000 := by omega
 have lit0 : ∀ s', sLit 1 0 [] [] s' = .ok (Sl s'.next 0 0 1, s'.alloc (.cells [])) := fun s' => rfl
 have E7 : Ext s6 (s6.alloc (.cells [])) := (Ext.refl s6).alloc _
 have o7 : Own s6.next (s6.alloc (.cells [])) 1 (Sl s6.next 0 0 1) (txs []) := .inr ⟨s6.next, 0, rfl, rfl, by rw [get_alloc, if_pos rfl]; rfl, Nat.le_refl _, Nat.lt_succ_self _⟩
 have happ : ∀ {s' : St} {A : Nat → Prop} {v w : Value} {a b : List Rd}, Ext s6 s' → Own s6.next s' 1 v (txs a) → RSl A s' 1 RRd w b → a.length + b.length ≤ 5000 → ∃ v' s'', sAppend 1 16 v w s' = .ok (v', s'') ∧ Own s6.next s'' 1 v' (txs (a ++ b)) ∧ Ext s6 s'' := fun {s' A v w a b} hE ho hb hlen => by
  obtain ⟨f1, f2⟩ := rsl_first hb
  obtain ⟨v', s'', r1, r2, r3, r4, r5⟩ := Own.app (bytes := 16) hE hr6 ho (by decide) f1 f2 (by rw [txs_len]; omega) (txs_ok b) (by rw [txs_len]; omega)
  rw [← txs_app] at r2
  exact ⟨v', s'', r1, r2, r3⟩
 simp only [sRem _ _ _ (show (17 : Int) ≠ 0 by decide), sRem _ _ _ (show (3 : Int) ≠ 0 by decide), hm1, hw1, hixa, thn_ok, sLoad1, hld, Res.bind_ok, sEql, condX_eq]
 obtain ⟨v14, sm14, h14⟩ := toks_to2 o6 (k := k) (by omega)
 by_cases w0 : w = 0
 ·obtain ⟨v17, sm17, h17⟩ := toks_from2 o6 (k := k + 1) (by omega)
  have wk : IntKind.i64.wrap ((k : Int) + 1) = ((k + 1 : Nat) : Int) := by rw [wrap_id (by omega)]; omega
  simp only [decide_eq_true w0, cond_true, lit0, thn_ok]
  generalize hs7 : s6.alloc (.cells []) = s7 at *
  obtain ⟨v15, s8, r1, r2, r3⟩ := happ E7 o7 (h14 s7 E7).2 (by rw [List.length_take]; simp; omega)
  simp only [(h14 s7 E7).1, thn_ok, r1, sAdd, wk, (h17 s8 r3).1]
  obtain ⟨v18, s9, t1, t2, t3⟩ := happ r3 r2 (h17 s8 r3).2 (by rw [List.nil_append, List.length_take, List.length_drop]; omega)
  simp only [t1, thn_ok]
  rw [List.nil_append] at t2
  refine need_go (stays1 (h17 s7 E7).1 sm17) ?_
  refine PA_rest hF hJ hraw (l := l.take k ++ l.drop (k + 1)) (fun p hp => (List.mem_append.1 hp).elim (fun h => hitems p (List.mem_of_mem_take h)) fun h => hitems p (List.mem_of_mem_drop h)) (by rw [List.length_append, List.length_take, List.length_drop]; omega) (hv.mono (X6.trans t3)) (rsl_toks t2)
 ·by_cases w1 : w = 1
  ·obtain ⟨v25, sm25, h25⟩ := toks_from2 o6 (k := k) (by omega)
   simp only [decide_eq_false w0, cond_false, decide_eq_true w1, cond_true, lit0, thn_ok]
   generalize hs7 : s6.alloc (.cells []) = s7 at *
   obtain ⟨v15, s8, r1, r2, r3⟩ := happ E7 o7 (h14 s7 E7).2 (by rw [List.length_take]; simp; omega)
   have E9 : Ext s8 (s8.alloc (.cells [T x.1])) := (Ext.refl s8).alloc _
   have g9 : (s8.alloc (.cells [T x.1])).get s8.next = some (.cells [T x.1]) := by rw [get_alloc, if_pos rfl]
   simp only [(h14 s7 E7).1, thn_ok, r1, lit1]
   generalize hs9 : s8.alloc (.cells [T x.1]) = s9 at *
   have E69 := r3.trans E9
   have hx1 : RSl (fun id => id = s8.next) s9 1 RRd (Sl s8.next 0 1 1) [x] := .inr ⟨s8.next, 0, [T x.1], rfl, rfl, g9, by simp, fun i p hp => by
    cases i with
    | zero => cases hp; rfl
    | succ i => cases hp⟩
   obtain ⟨v24, s10, t1, t2, t3⟩ := happ E69 (r2.mono E9) hx1 (by rw [List.nil_append, List.length_take]; simp; omega)
   simp only [t1, thn_ok, (h25 s10 t3).1]
   obtain ⟨v26, s11, u1, u2, u3⟩ := happ t3 t2 (h25 s10 t3).2 (by simp only [List.nil_append, List.length_append, List.length_take, List.length_drop, List.length_singleton]; omega)
   simp only [u1, thn_ok]
   rw [List.nil_append] at u2
   refine need_go (stays2 (h25 s9 E69).1 (h25 s7 E7).1 sm25) ?_
   refine PA_rest hF hJ hraw (l := l.take k ++ [x] ++ l.drop k) (fun p hp => ?_) (by simp only [List.length_append, List.length_take, List.length_drop, List.length_singleton]; omega) (hv.mono (X6.trans u3)) (rsl_toks u2)
   simp only [List.mem_append, List.mem_singleton] at hp
   rcases hp with (h | rfl) | h
   ·exact hitems p (List.mem_of_mem_take h)
   ·exact hxi
   ·exact hitems p (List.mem_of_mem_drop h)
  ·simp only [decide_eq_false w0, cond_false, decide_eq_false w1, lit0, thn_ok]
   generalize hs7 : s6.alloc (.cells []) = s7 at *
   obtain ⟨v28, s8, r1, r2, r3⟩ := happ E7 o7 (rsl_toks (o6.mono E7)) (by simp; omega)
   rw [List.nil_append] at r2
   rcases r2 with ⟨h0, _⟩ | ⟨b, n, rfl, h2, h3, h4, h5⟩
   ·have := congrArg List.length h0
    rw [txs_len] at this
    simp only [List.length_nil] at this
    omega
   rw [txs_len, Nat.mul_one] at h2
   subst h2
   have hixk : ∀ s', sIxA 1 none (Sl b 0 l.length 1) (I k) s' = .ok (P b k, s') := fun s' => by simp [sIxA, index, Res.need, hk2]
   have hro8 : s8.ro ≤ b := by rw [r3.ro]; omega
   have hst : s8.storeN b k [T x.1] = .ok (s8.put b (.cells (txs (l.set k x)))) := by
    rw [storeN_def, h3]
    have hsp : splice (txs l) k [T x.1] = txs (l.set k x) := by
     have e : txs (l.set k x) = (txs l).set k (T x.1) := by unfold txs; rw [List.map_set]
     rw [e, List.set_eq_take_append_cons_drop, if_pos (by rw [txs_len]; exact hk2)]
     rfl
    simp only [need_dec hro8, need_dec (show k + [T x.1].length ≤ (txs l).length by rw [txs_len]; simp only [List.length_singleton]; omega), hneed (show [T x.1].all cellOk = true from rfl), Res.bind_ok, hsp]
   have hone : ∀ {t : String}, Res.need true t = .ok () := fun {t} => rfl
   simp only [r1, thn_ok, hixk, sStore_T, decide_true, hone, hst, Res.bind_ok]
   have E9 : Ext s6 (s8.put b (.cells (txs (l.set k x)))) := r3.put h4 _
   refine PA_rest hF hJ hraw (l := l.set k x) (n0 := s6.next) (fun p hp => ?_) (by rw [List.length_set]; omega) (hv.mono (X6.trans E9)) ?_
   ·rcases List.mem_or_eq_of_mem_set hp with hp | rfl
    ·exact hitems p hp
    ·exact hxi
   ·have : Own s6.next (s8.put b (.cells (txs (l.set k x)))) 1 (Sl b 0 l.length 1) (txs (l.set k x)) := .inr ⟨b, l.length, rfl, by rw [txs_len, List.length_set, Nat.mul_one], by rw [get_put, if_pos rfl], h4, h5⟩
    exact rsl_toks this
theorem ParseAny_args {st : St} (hv : VOk st) (args : List Value) (h : WVs pg st [9, 24, 26, 5, 5] args) : Ok (K.go (.call n_refinerylaw05_ParseAny args) st) fun r => r.1 = .bool true := by
 match args, h with
 | [v0, v1, v2, v3, v4], ⟨h0, h1, h2, h3, h4, _⟩ =>
   obtain ⟨raw, rfl, hsz⟩ := h0.str Tryd.underlying9
   obtain ⟨s, hR, hs, hn⟩ := wv_Small h1
   obtain ⟨c, rfl, w⟩ := h2.int Tryd.underlying26
   obtain ⟨y, rfl, wy⟩ := h3.int Tryd.underlying5
   obtain ⟨z, rfl, wz⟩ := h4.int Tryd.underlying5
   rw [T_of]
   refine ParseAny_ok hF hs hR hn ?_ ?_ ?_ hv
   ·simpa [Lit.wf, IntKind.min, IntKind.max, IntKind.signed, IntKind.bits] using w
   ·simpa [Lit.wf, IntKind.min, IntKind.max, IntKind.signed, IntKind.bits] using wy
   ·simpa [Lit.wf, IntKind.min, IntKind.max, IntKind.signed, IntKind.bits] using wz
end Go.Proofs.YtdjfndijbnpkpaaDoor.Sh
