/-
  Plain programs of one block, read; Awake of chapter 5.
-/
import Derived.Test.YtdjfndijbnpkpaaDoorNb
import Derived.Test.YtdjfndijbnpkpaaDoorIrSame
set_option linter.unusedVariables false
set_option linter.unusedSimpArgs false
set_option linter.unusedSectionVars false
set_option maxRecDepth 100000
namespace Go.Proofs.YtdjfndijbnpkpaaDoor.Sh
open Go Go.AM Go.Proofs Go.AM.Lx
namespace PS
structure SetT (i n : Int) (l : List Tok) : Prop where
 is : ∃ t1 t2 t3 t4 : Tok, l = [t1, t2, t3, t4] ∧ t1.kind = 2 ∧ t1.n = i ∧ t2.kind = 6 ∧ t2.text = [61] ∧ t3.kind = 5 ∧ t3.n = n ∧ t4.kind = 7
theorem last_no {t : Tok} {r : List Tok} {a : Nat} (hk : t.kind ≠ 1) : last ⟨t :: r, a, 0⟩ = ((⟨0, 0, 0, 0⟩, false), ⟨t :: r, a, 0⟩) := by
 unfold last
 rw [word_no hk, if_neg (by decide), if_neg (by decide), if_neg (by decide), if_neg (by decide)]
theorem last_trap {t : Tok} {r : List Tok} {a : Nat} (hk : t.kind = 1) (hx : t.text = wTrap) : last ⟨t :: r, a, 0⟩ = ((⟨3, 0, 0, 0⟩, true), ⟨r, a, 0⟩) := by
 unfold last
 rw [word_ok hk, hx, if_neg (by decide), if_neg (by decide), if_neg (by decide), if_pos rfl]
 rfl
theorem instr_set {i n : Int} {t1 t2 t3 : Tok} {r : List Tok} {a : Nat} (hi : i < 100000) (h1 : t1.kind = 2) (h2 : t1.n = i) (h3 : t2.kind = 6) (h4 : t2.text = [61]) (h5 : t3.kind = 5) (h6 : t3.n = n) : instr ⟨t1 :: t2 :: t3 :: r, a, 0⟩ = (⟨0, 0, i, 0, 0, n, 0⟩, ⟨r, a, 0⟩) := by
 unfold instr
 rw [word_no (by rw [h1]; decide), if_neg (by decide), if_neg (by decide), if_neg (by decide), reg_ok h1 (by omega)]
 simp only
 rw [sign_ok h3 h4]
 unfold right
 rw [is_ok h5 (.inl rfl)]
 simp [hd, adv, h2, h6]
theorem bloop_sets : ∀ (ls : List (List Tok)) (ns : List (Int × Int)) (f : Nat) (r : List Tok) (a : Nat) (l : List Instr), (∀ p ∈ ns, p.1 < 100000) → ls.length = ns.length → (∀ (j : Nat) p x, ns[j]? = some p → ls[j]? = some x → SetT p.1 p.2 x) →
 bloop (f + ls.length) ⟨ls.flatten ++ r, a, 0⟩ l = bloop f ⟨r, a, 0⟩ (l ++ ns.map fun p => ⟨0, 0, p.1, 0, 0, p.2, 0⟩) := by
 intro ls
 induction ls with
 | nil =>
   intro ns f r a l hb hl h
   cases ns with
   | nil => simp
   | cons p ns => simp at hl
 | cons x ls ih =>
   intro ns f r a l hb hl h
   cases ns with
   | nil => simp at hl
   | cons p ns =>
     obtain ⟨t1, t2, t3, t4, rfl, h1, h2, h3, h4, h5, h6, h7⟩ := (h 0 p x rfl rfl).is
     have e : ([t1, t2, t3, t4] :: ls).flatten ++ r = t1 :: t2 :: t3 :: t4 :: (ls.flatten ++ r) := by simp
     have hln : lines ⟨t1 :: t2 :: t3 :: t4 :: (ls.flatten ++ r), a, 0⟩ = ⟨t1 :: t2 :: t3 :: t4 :: (ls.flatten ++ r), a, 0⟩ := lines_ok (ls := []) (by simp) (by rw [h1]; decide)
     rw [e, List.length_cons, ← Nat.add_assoc]
     show (if _ then _ else _) = _
     rw [if_pos rfl, hln, last_no (by rw [h1]; decide)]
     simp only [Bool.false_eq_true, if_false]
     rw [instr_set (hb p (List.mem_cons_self ..)) h1 h2 h3 h4 h5 h6]
     simp only
     rw [eol_ok h7, ih ns f r a _ (fun q hq => hb q (List.mem_cons_of_mem _ hq)) (by simpa using hl) fun j q y hq hy => h (j + 1) q y hq hy]
     simp
theorem prog_sets {ls : List (List Tok)} {ns : List (Int × Int)} {t1 t2 t3 w e : Tok} {b : Int} (hb : b < 100000) (h1 : t1.kind = 3) (h2 : t1.n = b) (h3 : t2.kind = 6) (h4 : t2.text = [58]) (h5 : t3.kind = 7) (hw : w.kind = 1) (hx : w.text = wTrap) (he : e.kind = 0)
 (hn : ∀ p ∈ ns, p.1 < 100000) (hl : ls.length = ns.length) (h : ∀ (j : Nat) p x, ns[j]? = some p → ls[j]? = some x → SetT p.1 p.2 x) :
 prog (ls.length + 2) ⟨t1 :: t2 :: t3 :: (ls.flatten ++ [w, e]), 0, 0⟩ = some ([⟨b, [], ns.map fun p => ⟨0, 0, p.1, 0, 0, p.2, 0⟩, ⟨3, 0, 0, 0⟩⟩], ⟨[e], 0, 0⟩) := by
 have hbl : bloop (ls.length + 1) ⟨ls.flatten ++ [w, e], 0, 0⟩ [] = some (ns.map fun p => ⟨0, 0, p.1, 0, 0, p.2, 0⟩, ⟨3, 0, 0, 0⟩, ⟨[e], 0, 0⟩) := by
  rw [Nat.add_comm, bloop_sets ls ns 1 [w, e] 0 [] hn hl h]
  show (if _ then _ else _) = _
  have hln : lines ⟨[w, e], 0, 0⟩ = ⟨[w, e], 0, 0⟩ := lines_ok (ls := []) (by simp) (by rw [hw]; decide)
  rw [if_pos rfl, hln, last_trap hw hx]
  simp
 have hbk : block (ls.length + 1) ⟨t1 :: t2 :: t3 :: (ls.flatten ++ [w, e]), 0, 0⟩ = some (⟨b, [], ns.map fun p => ⟨0, 0, p.1, 0, 0, p.2, 0⟩, ⟨3, 0, 0, 0⟩⟩, ⟨[e], 0, 0⟩) := by
  unfold block
  rw [label_ok h1 (by omega)]
  simp only
  rw [sign_ok h3 h4, eol_ok h5, hbl]
  simp only
  rw [is_ok he (.inl rfl), h2]
  rfl
 have hl1 : lines ⟨t1 :: t2 :: t3 :: (ls.flatten ++ [w, e]), 0, 0⟩ = ⟨t1 :: t2 :: t3 :: (ls.flatten ++ [w, e]), 0, 0⟩ := lines_ok (ls := []) (by simp) (by rw [h1]; decide)
 have hl2 : lines ⟨[e], 0, 0⟩ = ⟨[e], 0, 0⟩ := lines_ok (ls := []) (by simp) (by rw [he]; decide)
 unfold prog
 rw [hl1]
 show (if _ then _ else _) = _
 rw [is_ok h1 (.inl rfl), if_pos rfl, hbk]
 simp only
 rw [hl2]
 show (if _ then _ else _) = _
 rw [is_no (by rw [he]; decide), if_neg (by decide)]
 unfold take
 rw [is_ok he (.inl rfl)]
 rfl
end PS
theorem check_sets {b : Int} {ns : List (Int × Int)} (hb : 0 ≤ b ∧ b < 100000) (hn : ∀ p ∈ ns, 0 ≤ p.1 ∧ p.1 < 100000) (hl : ns.length ≤ 1000) : check [⟨b, [], ns.map fun p => ⟨0, 0, p.1, 0, 0, p.2, 0⟩, ⟨3, 0, 0, 0⟩⟩] = 0 := by
 have hc : count [⟨b, [], ns.map fun p => ⟨0, 0, p.1, 0, 0, p.2, 0⟩, ⟨3, 0, 0, 0⟩⟩] = ns.length + 1 := by simp [count]
 have hz : ∀ l : List Int, (∀ x ∈ l, x = 0) → ferr l = 0 := by
  intro l
  induction l with
  | nil => intro _; rfl
  | cons x l ih => intro h; rw [ferr, if_pos (h x (List.mem_cons_self ..))]; exact ih fun y hy => h y (List.mem_cons_of_mem _ hy)
 unfold check
 rw [if_neg (by simp), hc, if_neg (by omega)]
 have hd : dupGo [] [⟨b, [], ns.map fun p => ⟨0, 0, p.1, 0, 0, p.2, 0⟩, ⟨3, 0, 0, 0⟩⟩] = 0 := by
  have : ¬ (b < 0 ∨ 100000 ≤ b) := by omega
  simp [dupGo, this]
 rw [if_pos hd]
 refine hz _ fun x hx => ?_
 simp only [List.map_cons, List.map_nil, List.mem_singleton] at hx
 subst hx
 unfold blockErr
 refine hz _ fun y hy => ?_
 simp only [List.map_nil, List.nil_append, List.mem_append, List.mem_map, List.mem_singleton] at hy
 rcases hy with ⟨i, ⟨p, hp, rfl⟩, rfl⟩ | rfl
 ·have := hn p hp
  have h1 : isReg p.1 = true := by simp [isReg]; omega
  have h2 : isReg 0 = true := by decide
  simp [Instr.check, Instr.only, Instr.sets, Instr.reads, h1, h2]
 ·have h2 : isReg 0 = true := by decide
  simp [Last.check, Last.only, Last.labels, lchk, h2]
def GoodT (s : List UInt8) (ts : List Tok) : Prop := ∀ rest, evs (s ++ rest) 0 = ts.map (fun t => (t, (0 : Int))) ++ evs rest s.length
theorem good_head {b : Nat} (hb : b ≤ 9223372036854775807) : ∃ t1 t2 t3 : Tok, GoodT (64 :: Lib.decDigits b ++ [58, 10]) [t1, t2, t3] ∧ t1.kind = 3 ∧ t1.n = b ∧ t2.kind = 6 ∧ t2.text = [58] ∧ t3.kind = 7 := by
 refine ⟨⟨3, 0, [], b⟩, ⟨6, 0 + (64 :: Lib.decDigits b).length, [58], 0⟩, ⟨7, 0 + (64 :: Lib.decDigits b).length + 1, [], 0⟩, fun rest => ?_, rfl, rfl, rfl, rfl, rfl⟩
 have e : 64 :: Lib.decDigits b ++ [58, 10] ++ rest = (64 :: Lib.decDigits b) ++ (58 :: 10 :: rest) := by simp
 rw [e, sMark (m := 64) (by decide) hb (stop_cons _ (by decide) (by decide)), sSign (by decide), evs_line]
 have hk : regKind 64 = 3 := rfl
 simp [Nat.add_assoc, hk]
theorem good_end {s : List UInt8} {ts : List Tok} (h : GoodT s ts) (hl : s.length ≤ 99990) : ∃ w e : Tok, split (events (s ++ wTrap)) = (ts ++ [w, e], 0, 0) ∧ w.kind = 1 ∧ w.text = wTrap ∧ e.kind = 0 := by
 refine ⟨⟨1, s.length, wTrap, 0⟩, endT (s.length + 4), ?_, rfl, rfl, rfl⟩
 unfold events
 rw [if_neg (by simp [wTrap]; omega), h]
 have e1 := sWord (w := wTrap) (rest := []) (by decide) (by decide) stop_nil s.length
 rw [List.append_nil] at e1
 rw [e1, evs_nil, split_toks, split_cons, if_pos rfl, split_cons, if_pos rfl]
 rfl
variable {K : Ctx} (hF : Fix pgF K)
include hF
theorem Parse_sets {s : List UInt8} {ls : List (List Tok)} {ns : List (Int × Int)} {t1 t2 t3 : Tok} {b : Int} (hb : 0 ≤ b ∧ b < 100000) (hs : GoodT s (t1 :: t2 :: t3 :: ls.flatten)) (hl : s.length ≤ 99990) (h1 : t1.kind = 3) (h2 : t1.n = b) (h3 : t2.kind = 6) (h4 : t2.text = [58]) (h5 : t3.kind = 7)
 (hn : ∀ p ∈ ns, 0 ≤ p.1 ∧ p.1 < 100000) (hll : ls.length = ns.length) (hlen : ns.length ≤ 1000) (h : ∀ (j : Nat) p x, ns[j]? = some p → ls[j]? = some x → PS.SetT p.1 p.2 x) {st : St} (hv : VOk st) :
 Ok (K.go (.call n_parse_Parse [T (s ++ wTrap)]) st) (ParsePost st [⟨b, [], ns.map fun p => ⟨0, 0, p.1, 0, 0, p.2, 0⟩, ⟨3, 0, 0, 0⟩⟩] 0 0) := by
 obtain ⟨w, e, hsp, hw, hx, he⟩ := good_end hs hl
 refine Parse_all hF (by unfold Short; simp [wTrap]; omega) hv (fun hne => by rw [hsp] at hne; exact absurd rfl hne) fun _ => ?_
 rw [hsp]
 refine ⟨ls.length + 2, _, _, by omega, PS.prog_sets hb.2 h1 h2 h3 h4 h5 hw hx he (fun p hp => (hn p hp).2) hll h, fun hne => absurd rfl hne, fun _ => ⟨?_, ?_, fun hc => absurd (check_sets hb hn hlen) hc, fun _ => ⟨rfl, rfl, rfl⟩⟩⟩
 ·simp [count]; omega
 ·intro b hb; rw [List.mem_singleton.1 hb]
theorem Awake05_ok {st : St} (hv : VOk st) : Ok (K.go (.call n_refinerylaw05_Awake []) st) fun r => r.1 = B true ∧ Ext st r.2 := by
 refine refinerylaw05_Awake_of hF fun J hJ => ?_
 rw [refinerylaw05_Awake_eq]
 obtain ⟨t1, t2, t3, hg, h1, h2, h3, h4, h5⟩ := good_head (b := 0) (by decide)
 have e0 : (64 :: Lib.decDigits 0 ++ [58, 10] : List UInt8) = [64, 48, 58, 10] := by rw [Lib.decDigits]; rfl
 rw [e0] at hg
 have hp := Parse_sets hF (s := [64, 48, 58, 10]) (ls := []) (ns := []) (by omega) hg (by simp) h1 h2 h3 h4 h5 (by simp) rfl (by simp) (by simp) hv
 simp only [T_bstr]
 refine hp.thn fun ⟨r1, s1⟩ ⟨vp, ids, e1, e2, e3, e4⟩ => ?_
 simp only at e1 e2 e3 e4
 subst e1
 have hlen : ∀ s', sLen .slice vp s' = .ok (I 1, s') := RepSl.len e2
 obtain ⟨bb, cs, is, k1, k2, k3, k4, ⟨vph, vi, i1, i2, rfl, _⟩, k6, k7, k8⟩ := RepSl.at e2 (i := 0) (x := ⟨0, [], [], ⟨3, 0, 0, 0⟩⟩) rfl
 have k1 : ∀ s', sIxA 7 none vp (I 0) s' = .ok (P bb 0, s') := fun s' => by have := k1 s'; simpa using this
 have hbb := (e3.at_ bb k2).2
 have l3 : s1.bump.load1 bb 3 = .ok (U 3) := by
  have := k8 s1.bump 3 (U 3) (by rw [get_bump, if_neg (by omega)]) rfl
  simpa using this
 have hup : ∀ s', sUpd 1 0 (.agg #[.slice none 0 0]) (.agg #[vp]) s' = .ok (.agg #[vp], s') := fun s' => by simp [Res.need, RepSl.cell e2]
 have hf0 : ∀ s', sField none 0 (.agg #[vp]) s' = .ok (vp, s') := fun s' => rfl
 have hr0 : ∀ s', sLref (.agg #[vp]) s' = .ok (nothing, s') := fun s' => rfl
 have z0 : decide ((0 : Int) = 0) = true := rfl
 have z1 : decide ((1 : Int) = 1) = true := rfl
 have z3 : decide ((3 : Int) = 3) = true := rfl
 simp only [sExtract_eq, List.getElem?_toArray, List.getElem?_cons_zero, List.getElem?_cons_succ, Res.of_some, Res.bind_ok, thn_ok, sLnew_eq, hup, sEql, z0, decide_true, sG_eq, beq_self_eq_true, cond_true, hr0, hf0, hlen, z1, sPick_eq, if_true, k1, sOff_eq, Nat.zero_add, Nat.add_zero, sLoad1, l3, z3]
 exact ⟨(B true, s1.bump), rfl, rfl, e4.bump⟩
end Go.Proofs.YtdjfndijbnpkpaaDoor.Sh
