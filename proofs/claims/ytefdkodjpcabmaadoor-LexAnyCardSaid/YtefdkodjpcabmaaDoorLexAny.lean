/-
  LexAny: whatever it is given, the law's function answers true.
-/
import Derived.Test.YtefdkodjpcabmaaDoorLx7
import Derived.Test.YtefdkodjpcabmaaDoorShL5
set_option linter.unusedVariables false
set_option linter.unusedSimpArgs false
set_option linter.unusedSectionVars false
set_option maxRecDepth 100000
namespace Go.AM.Lx
def EvOk (s : List UInt8) (x : List Tok × Nat × Int) : Nat → List Ev → Prop
 | _, [] => True
 | e, (t, f) :: rest => e ≤ t.at_ ∧ t.at_ ≤ s.length ∧ (f ≠ 0 → f = x.2.2 ∧ t = endT x.2.1 ∧ rest = []) ∧
   (f = 0 → (t.text ≠ [] → t.at_ + t.text.length ≤ s.length ∧ (s.take (t.at_ + t.text.length)).drop t.at_ = t.text) ∧ EvOk s x t.at_ rest)
theorem next_at (l : List UInt8) (a : Nat) : (next l a).1.at_ = a := by
 unfold next
 cases l with
 | nil => rfl
 | cons c r =>
   simp only
   repeat' split
   all_goals rfl
theorem next_text (l : List UInt8) (a : Nat) (h : (next l a).1.text ≠ []) : (next l a).1.text = l.take (next l a).1.text.length ∧ (next l a).1.text.length ≤ l.length := by
 unfold next at *
 cases l with
 | nil => exact absurd rfl h
 | cons c r =>
   simp only at *
   split
   ·rename_i h1; rw [if_pos h1] at h; exact absurd rfl h
   ·rename_i h1
    rw [if_neg h1] at h
    split
    ·exact ⟨rfl, by simp⟩
    ·rename_i h2
     rw [if_neg h2] at h
     split
     ·rename_i h3
      rw [if_pos h3] at h
      split
      ·rename_i h4; rw [if_pos h4] at h; exact absurd rfl h
      ·rename_i h4; rw [if_neg h4] at h; exact absurd rfl h
     ·rename_i h3
      rw [if_neg h3] at h
      split
      ·have := lets_le (c :: r)
       simp only [List.length_take]
       rw [Nat.min_eq_left this]
       exact ⟨rfl, this⟩
      ·rename_i h4; rw [if_neg h4] at h; exact absurd rfl h
theorem evs_ok (s : List UInt8) (x : List Tok × Nat × Int) : ∀ (n a e : Nat), (s.drop a).length ≤ n → e ≤ a → a ≤ s.length → ((split (evs (s.drop a) a)).2.2 ≠ 0 → x = split (evs (s.drop a) a)) → EvOk s x e (evs (s.drop a) a) := by
 intro n
 induction n with
 | zero =>
   intro a e hn he ha hx
   have hd : s.drop a = [] := List.length_eq_zero_iff.1 (by omega)
   rw [hd, evs_nil]
   refine ⟨he, ha, fun h => absurd rfl h, fun _ => ⟨fun h => absurd rfl h, trivial⟩⟩
 | succ n ih =>
   intro a e hn he ha hx
   cases hd : s.drop a with
   | nil =>
     rw [evs_nil]
     exact ⟨he, ha, fun h => absurd rfl h, fun _ => ⟨fun h => absurd rfl h, trivial⟩⟩
   | cons c r =>
     rw [hd] at hn hx
     have hl := congrArg List.length hd
     rw [List.length_drop] at hl
     simp only [List.length_cons] at hl hn
     have hr : ∀ k, s.drop (a + k) = (c :: r).drop k := fun k => by rw [← List.drop_drop, hd]
     by_cases c1 : c.toNat = 32
     ·rw [evs_blank _ _ c1] at hx ⊢
      have h1 : s.drop (a + 1) = r := hr 1
      rw [← h1] at hx ⊢
      exact ih (a + 1) e (by rw [h1]; omega) (by omega) (by omega) hx
     ·by_cases c2 : c.toNat = 35
      ·rw [evs_note _ _ c2] at hx ⊢
       have htw := takeWhile_le (fun c : UInt8 => decide (c.toNat ≠ 10)) r
       have h1 : s.drop (a + 1 + (r.takeWhile fun c => decide (c.toNat ≠ 10)).length) = r.dropWhile fun c => decide (c.toNat ≠ 10) := by
        rw [Nat.add_assoc, hr, Nat.add_comm, List.drop_succ_cons]
        have := List.takeWhile_append_dropWhile (p := fun c : UInt8 => decide (c.toNat ≠ 10)) (l := r)
        generalize r.takeWhile _ = y at *
        generalize r.dropWhile _ = z at *
        rw [← this, List.drop_left]
       rw [← h1] at hx ⊢
       refine ih _ e ?_ (by omega) (by omega) hx
       rw [List.length_drop]; omega
      ·have hk := next_le (c :: r) a
       by_cases hz : (next (c :: r) a).2 = 0
       ·rw [evs_bad c1 c2 hz] at hx ⊢
        have hx := hx (by decide : (4 : Int) ≠ 0)
        refine ⟨he, ha, fun _ => ?_, fun h => by cases h⟩
        rw [hx]
        exact ⟨rfl, rfl, rfl⟩
       ·rw [evs_tok c1 c2 hz] at hx ⊢
        have hat := next_at (c :: r) a
        have htx := next_text (c :: r) a
        have hle := next_le (c :: r) a
        simp only [List.length_cons] at hk hle
        refine ⟨by omega, by omega, fun h => absurd rfl h, fun _ => ⟨fun h => ?_, ?_⟩⟩
        ·obtain ⟨h1, h2⟩ := htx h
         rw [hat]
         simp only [List.length_cons] at h2
         refine ⟨by omega, ?_⟩
         rw [List.drop_take, Nat.add_sub_cancel_left, hd]
         exact h1.symm
        ·rw [← hr] at hx ⊢
         refine ih _ _ ?_ (by omega) (by omega) fun h => ?_
         ·rw [List.length_drop]; omega
         ·have hs : split (((next (c :: r) a).1, 0) :: evs (s.drop (a + (next (c :: r) a).2)) (a + (next (c :: r) a).2)) = split (evs (s.drop (a + (next (c :: r) a).2)) (a + (next (c :: r) a).2)) := by
           rw [split_cons, if_pos rfl, if_neg h]
          rw [hs] at hx
          exact hx h
def AllOk (s : List UInt8) (x : List Tok × Nat × Int) : Prop := if x.2.2 = 0 then ∃ ts, x.1 = ts ++ [endT s.length] ∧ x.1.length ≤ 1000000 else x.1 = []
theorem split_last (s : List UInt8) : ∀ (n a : Nat), (s.drop a).length ≤ n → a ≤ s.length → ((split (evs (s.drop a) a)).2.2 = 0 → ∃ ts, (split (evs (s.drop a) a)).1 = ts ++ [endT s.length]) ∧ ((split (evs (s.drop a) a)).2.2 ≠ 0 → (split (evs (s.drop a) a)).1 = []) := by
 intro n
 induction n with
 | zero =>
   intro a hn ha
   have hd : s.drop a = [] := List.length_eq_zero_iff.1 (by omega)
   have he : a = s.length := by rw [List.length_drop] at hn; omega
   rw [hd, evs_nil, he]
   exact ⟨fun _ => ⟨[], rfl⟩, fun h => absurd rfl h⟩
 | succ n ih =>
   intro a hn ha
   cases hd : s.drop a with
   | nil =>
     have he : a = s.length := by rw [List.drop_eq_nil_iff] at hd; omega
     rw [evs_nil, he]
     exact ⟨fun _ => ⟨[], rfl⟩, fun h => absurd rfl h⟩
   | cons c r =>
     rw [hd] at hn
     have hl := congrArg List.length hd
     rw [List.length_drop] at hl
     simp only [List.length_cons] at hl hn
     have hr : ∀ k, s.drop (a + k) = (c :: r).drop k := fun k => by rw [← List.drop_drop, hd]
     by_cases c1 : c.toNat = 32
     ·rw [evs_blank _ _ c1]
      have h1 : s.drop (a + 1) = r := hr 1
      rw [← h1]
      exact ih (a + 1) (by rw [h1]; omega) (by omega)
     ·by_cases c2 : c.toNat = 35
      ·rw [evs_note _ _ c2]
       have htw := takeWhile_le (fun c : UInt8 => decide (c.toNat ≠ 10)) r
       have h1 : s.drop (a + 1 + (r.takeWhile fun c => decide (c.toNat ≠ 10)).length) = r.dropWhile fun c => decide (c.toNat ≠ 10) := by
        rw [Nat.add_assoc, hr, Nat.add_comm, List.drop_succ_cons]
        have := List.takeWhile_append_dropWhile (p := fun c : UInt8 => decide (c.toNat ≠ 10)) (l := r)
        generalize r.takeWhile _ = y at *
        generalize r.dropWhile _ = z at *
        rw [← this, List.drop_left]
       rw [← h1]
       refine ih _ ?_ (by omega)
       rw [List.length_drop]; omega
      ·have hk := next_le (c :: r) a
       simp only [List.length_cons] at hk
       by_cases hz : (next (c :: r) a).2 = 0
       ·rw [evs_bad c1 c2 hz]
        exact ⟨fun h => (by cases h), fun _ => rfl⟩
       ·rw [evs_tok c1 c2 hz, ← hr]
        obtain ⟨h1, h2⟩ := ih (a + (next (c :: r) a).2) (by rw [List.length_drop]; omega) (by omega)
        rw [split_cons, if_pos rfl]
        generalize split (evs (s.drop (a + (next (c :: r) a).2)) (a + (next (c :: r) a).2)) = y at *
        by_cases h : y.2.2 = 0
        ·rw [if_pos h]
         obtain ⟨ts, e⟩ := h1 h
         exact ⟨fun _ => ⟨(next (c :: r) a).1 :: ts, by simp only; rw [e]; rfl⟩, fun h => absurd rfl h⟩
        ·rw [if_neg h]
         exact ⟨fun h' => absurd h' h, h2⟩
theorem split_len : ∀ l : List Ev, (split l).1.length ≤ l.length := by
 intro l
 induction l with
 | nil => simp [split]
 | cons a l ih =>
   obtain ⟨t, e⟩ := a
   rw [split_cons]
   split
   ·split
    ·simp; exact ih
    ·simp; omega
   ·simp
theorem events_ok {s : List UInt8} (h : s.length ≤ 100000) : EvOk s (split (events s)) 0 (events s) ∧ AllOk s (split (events s)) := by
 have hl := split_len (events s)
 have hl2 := events_len s
 have h1 : events s = evs (s.drop 0) 0 := by unfold events; rw [if_neg (by omega), List.drop_zero]
 refine ⟨?_, ?_⟩
 ·rw [h1]
  exact evs_ok s _ s.length 0 0 (by simp) (by omega) (by omega) fun _ => rfl
 ·obtain ⟨h2, h3⟩ := split_last s s.length 0 (by simp) (by omega)
  rw [← h1] at h2 h3
  unfold AllOk
  split
  ·rename_i h; obtain ⟨ts, e⟩ := h2 h; exact ⟨ts, e, by omega⟩
  ·rename_i h; exact h3 h
end Go.AM.Lx
namespace Go.Proofs.YtefdkodjpcabmaaDoor.Sh
open Go Go.AM Go.Proofs Go.AM.Lx
noncomputable def lyA : ACode := posC refinerylaw04_LexAny_c.body [1, 1, 1, 1, 1, 1, 1, 1, 0, 1, 0, 1, 0, 0, 1, 1, 1, 0, 0, 1, 1, 1, 1, 0, 1, 0, 1, 0]
noncomputable def lyB : ACode := posC refinerylaw04_LexAny_c.body [1, 1, 1, 1, 1, 1, 1, 1, 0, 1, 0, 1, 0, 0, 1, 1, 1, 0, 0, 1, 1, 1, 1, 0, 1, 0, 1, 1]
def lyE (v4 v9 v10 v11 v12 v13 v14 v44 v45 v46 v57 : Value) : Env := envT [(4, v4), (9, v9), (10, v10), (11, v11), (12, v12), (13, v13), (14, v14), (15, nothing), (16, nothing), (44, v44), (45, v45), (46, v46), (57, v57)]
theorem lyA_eq (K : Ctx) (v4 v9 v10 v11 v12 v13 v14 v44 v45 v46 v57 : Value) (t : Tok) (e : Int) (st : St) : codeC K lyA (putL (lyE v4 v9 v10 v11 v12 v13 v14 v44 v45 v46 v57) [58, 59] [vTok t, I e]) st =
 .ok (.normal, (16, I e) :: (15, vTok t) :: (15, .agg #[U 0, I 0, .string (bstr []), I 0]) :: (59, I e) :: (58, vTok t) :: lyE v4 v9 v10 v11 v12 v13 v14 v44 v45 v46 v57, st.bump) := by kernel_rfl
theorem lyB_eq (K : Ctx) (J : JT (AExit × St)) (v4 v9 v10 v11 v12 v13 v14 v44 v45 v46 v57 : Value) (t : Tok) (e : Int) (st : St) : atR K J lyB ((16, I e) :: (15, vTok t) :: (15, .agg #[U 0, I 0, .string (bstr []), I 0]) :: (59, I e) :: (58, vTok t) :: lyE v4 v9 v10 v11 v12 v13 v14 v44 v45 v46 v57) st =
 refinerylaw04_LexAny_jr1111111101010011100111101011_0 J v4 v9 v10 v11 v12 v13 v14 (vTok t) (I e) v44 v45 v46 st := by kernel_rfl
theorem sStore_tok (b o : Nat) (t : Tok) (st : St) : sStore 4 (P b o) (vTok t) st = (st.storeN b o (cTok t) >>= fun s => .ok (nothing, s)) := by
 unfold vTok
 rw [sStore_agg]
 rw [need_dec (by simp [cTok])]
 rfl
structure AP (s0 st : St) (nb lb bx L : Nat) (s : List UInt8) (E : Env) (last : Tok) (sl : LoopState) (pd : AExit) : Prop where
 ext : Ext s0 st
 vars : VOk st
 m0 : s0.next ≤ nb
 m1 : nb < lb
 m2 : lb < bx
 m3 : bx < L
 lt : L < st.next
 gn : st.get nb = some (.cells [I last.at_])
 gl : st.get lb = some (.cells (cTok last))
 gx : st.get bx = some (.cells [T s])
 gL : st.get L = some (.loop E [58, 59] lyA lyB sl pd)
theorem AP.mono {s0 st st' : St} {nb lb bx L : Nat} {s : List UInt8} {E : Env} {last : Tok} {sl : LoopState} {pd : AExit} (h : AP s0 st nb lb bx L s E last sl pd) (hE : Ext st st') : AP s0 st' nb lb bx L s E last sl pd := by
 have h1 := h.m1; have h2 := h.m2; have h3 := h.m3; have h4 := h.lt
 exact { h with
  ext := h.ext.trans hE
  vars := h.vars.mono hE
  lt := Nat.lt_of_lt_of_le h.lt hE.next
  gn := by rw [hE.get _ (by omega)]; exact h.gn
  gl := by rw [hE.get _ (by omega)]; exact h.gl
  gx := by rw [hE.get _ (by omega)]; exact h.gx
  gL := by rw [hE.get _ h.lt]; exact h.gL }
def APs (s0 : St) (nb lb bx L : Nat) (s : List UInt8) (x : List Tok × Nat × Int) (E : Env) (l : List Ev) (st : St) : Prop :=
 (∃ last, AP s0 st nb lb bx L s E last .ready .normal ∧ EvOk s x last.at_ l) ∨ (l = [] ∧ ∃ last, AP s0 st nb lb bx L s E last .done (.exit 4))
variable {K : Ctx} (hF : Fix pgF K)
include hF
theorem Any_sees {s0 : St} {rb sb ab eb nb lb bx L : Nat} {s : List UInt8} {x : List Tok × Nat × Int} {v10 v44 v45 v46 v57 : Value} (hro : s0.ro ≤ s0.next) (hv0 : VOk s0) (hsl : s.length ≤ 100000)
 (gs : s0.get sb = some (.cells [T s])) (ga : s0.get ab = some (.cells [I x.2.1])) (ge : s0.get eb = some (.cells [I x.2.2])) (ks : sb < s0.next) (ka : ab < s0.next) (ke : eb < s0.next) :
 Sees K (.func (.yield L) #[] #[]) bx s (APs s0 nb lb bx L s x (lyE (P rb 0) (P sb 0) v10 (P ab 0) (P eb 0) (P nb 0) (P lb 0) v44 v45 v46 v57)) where
 mono := fun l st st' h hE => h.imp (fun ⟨t, a, b⟩ => ⟨t, a.mono hE, b⟩) (fun ⟨h1, t, h3⟩ => ⟨h1, t, h3.mono hE⟩)
 vars := fun l st h => by rcases h with ⟨t, a, _⟩ | ⟨_, t, a⟩ <;> exact a.vars
 text := fun l st h => by rcases h with ⟨t, a, _⟩ | ⟨_, t, a⟩ <;> exact a.gx
 step := fun (t, f) rest st h => by
  rcases h with ⟨last, h, hev⟩ | ⟨h, _⟩
  rotate_left
  ·cases h
  obtain ⟨ev1, ev2, ev3, ev4⟩ := hev
  have q : sCall K (.func (.yield L) #[] #[]) [vTok t, I f] st = K.go (.round L [vTok t, I f]) st := by simp [sCall, taskOf]
  show Ok (sCall K (.func (.yield L) #[] #[]) [vTok t, I f] st) _
  rw [q]
  generalize hE : lyE (P rb 0) (P sb 0) v10 (P ab 0) (P eb 0) (P nb 0) (P lb 0) v44 v45 v46 v57 = E at h
  have m0 := h.m0; have m1 := h.m1; have m2 := h.m2; have m3 := h.m3; have kl := h.lt; have hn := h.ext.next
  have hgb : st.bump.get L = some (.loop E [58, 59] lyA lyB .ready .normal) := by rw [get_bump, if_neg (by omega)]; exact h.gL
  refine round_of hF h.gL rfl (by rw [h.ext.ro]; omega) (by rw [← hE]; exact lyA_eq K _ _ _ _ _ _ _ _ _ _ _ t f st) hgb fun J hJ => ?_
  rw [hE, ← hE, lyB_eq, hE]
  generalize hs1 : (st.bump).put L (.loop E [58, 59] lyA lyB .busy .normal) = s1
  have hX : Ext s0 s1 := by rw [← hs1]; exact (h.ext.bump).put (by omega) _
  have n1 : s1.next = st.next + 1 := by rw [← hs1]; rfl
  have old : ∀ id, id < st.next → id ≠ L → s1.get id = st.get id := fun id h1 h2 => by rw [← hs1, get_put, if_neg h2, get_bump, if_neg (by omega)]
  have gL : s1.get L = some (.loop E [58, 59] lyA lyB .busy .normal) := by rw [← hs1, get_put, if_pos rfl]
  have ro1 : s1.ro = s0.ro := hX.ro
  clear hs1
  have gn : s1.get nb = some (.cells [I last.at_]) := by rw [old _ (by omega) (by omega)]; exact h.gn
  have gl : s1.get lb = some (.cells (cTok last)) := by rw [old _ (by omega) (by omega)]; exact h.gl
  have ln : s1.load1 nb 0 = .ok (I last.at_) := load1_eq gn rfl
  have ll0 : s1.load1 lb 0 = .ok (U last.kind) := load1_eq gl rfl
  have ll1 : s1.load1 lb 1 = .ok (I last.at_) := load1_eq gl rfl
  have ls : s1.load1 sb 0 = .ok (T s) := load1_eq (by rw [hX.get _ ks]; exact gs) rfl
  have la : s1.load1 ab 0 = .ok (I x.2.1) := load1_eq (by rw [hX.get _ ka]; exact ga) rfl
  have le : s1.load1 eb 0 = .ok (I x.2.2) := load1_eq (by rw [hX.get _ ke]; exact ge) rfl
  have c1 : ¬ (t.at_ : Int) < last.at_ := by omega
  have c2 : ¬ ((s.length : Nat) : Int) < t.at_ := by omega
  generalize hQ : (fun r : AExit × St => ∃ e4 ps4 as4 bd4 s4 pd4, r.2.get L = some (.loop e4 ps4 as4 bd4 s4 pd4) ∧ _) = Q
  have first : Ok (refinerylaw04_LexAny_jr1111111101010011100111101011_1 J (P rb 0) (P sb 0) v10 (P ab 0) (P eb 0) (P nb 0) (P lb 0) (vTok t) (I f) v44 v45 v46 s1) Q → Ok (refinerylaw04_LexAny_jr1111111101010011100111101011_0 J (P rb 0) (P sb 0) v10 (P ab 0) (P eb 0) (P nb 0) (P lb 0) (vTok t) (I f) v44 v45 v46 s1) Q := fun hh => by
   rw [refinerylaw04_LexAny_jr1111111101010011100111101011_0_eq hJ]
   simp only [sLref_tok, thn_ok, sField_at, sField_kind, sLoad1, ln, Res.bind_ok, sLss, decide_eq_false c1, sG_eq, beq_self_eq_true, cond_true, ls, sLen_T, sGtr, decide_eq_false c2, sPick_eq, Bool.false_eq_true, if_false, sOff_eq, Nat.add_zero, Nat.zero_add, ll0, ll1, sEql]
   have F : ∀ {p : Prop} [Decidable p], ¬ p → decide p = false := fun h => decide_eq_false h
   by_cases b1 : last.kind = 0
   ·by_cases b2 : (0 : Int) < last.at_
    ·by_cases b3 : (last.at_ : Int) = (s.length : Nat)
     ·by_cases b4 : f = 0
      ·by_cases b5 : t.kind = 0
       ·simp only [decide_eq_true b1, decide_eq_true b2, decide_eq_true b3, decide_eq_true b4, decide_eq_true b5, sG_eq, beq_self_eq_true, cond_true, cond_false, show (false == true) = false from rfl, show (true == false) = false from rfl, thn_ok, sPick_eq, if_true, Bool.false_eq_true, if_false, sLoad1, ln, ll0, ll1, ls, Res.bind_ok, sGtr, sOff_eq, Nat.zero_add, Nat.add_zero, sLen_T, sEql, sLref_tok, sField_kind, sField_at, sLss, decide_eq_false c1, sG_skip, condX_eq]
        exact hh
       ·simp only [decide_eq_true b1, decide_eq_true b2, decide_eq_true b3, decide_eq_true b4, decide_eq_false b5, sG_eq, beq_self_eq_true, cond_true, cond_false, show (false == true) = false from rfl, show (true == false) = false from rfl, thn_ok, sPick_eq, if_true, Bool.false_eq_true, if_false, sLoad1, ln, ll0, ll1, ls, Res.bind_ok, sGtr, sOff_eq, Nat.zero_add, Nat.add_zero, sLen_T, sEql, sLref_tok, sField_kind, sField_at, sLss, decide_eq_false c1, sG_skip, condX_eq]
        exact hh
      ·simp only [decide_eq_true b1, decide_eq_true b2, decide_eq_true b3, decide_eq_false b4, sG_eq, beq_self_eq_true, cond_true, cond_false, show (false == true) = false from rfl, show (true == false) = false from rfl, thn_ok, sPick_eq, if_true, Bool.false_eq_true, if_false, sLoad1, ln, ll0, ll1, ls, Res.bind_ok, sGtr, sOff_eq, Nat.zero_add, Nat.add_zero, sLen_T, sEql, sLref_tok, sField_kind, sField_at, sLss, decide_eq_false c1, sG_skip, condX_eq]
       exact hh
     ·simp only [decide_eq_true b1, decide_eq_true b2, decide_eq_false b3, sG_eq, beq_self_eq_true, cond_true, cond_false, show (false == true) = false from rfl, show (true == false) = false from rfl, thn_ok, sPick_eq, if_true, Bool.false_eq_true, if_false, sLoad1, ln, ll0, ll1, ls, Res.bind_ok, sGtr, sOff_eq, Nat.zero_add, Nat.add_zero, sLen_T, sEql, sLref_tok, sField_kind, sField_at, sLss, decide_eq_false c1, sG_skip, condX_eq]
      exact hh
    ·simp only [decide_eq_true b1, decide_eq_false b2, sG_eq, beq_self_eq_true, cond_true, cond_false, show (false == true) = false from rfl, show (true == false) = false from rfl, thn_ok, sPick_eq, if_true, Bool.false_eq_true, if_false, sLoad1, ln, ll0, ll1, ls, Res.bind_ok, sGtr, sOff_eq, Nat.zero_add, Nat.add_zero, sLen_T, sEql, sLref_tok, sField_kind, sField_at, sLss, decide_eq_false c1, sG_skip, condX_eq]
     exact hh
   ·simp only [decide_eq_false b1, sG_eq, beq_self_eq_true, cond_true, cond_false, show (false == true) = false from rfl, show (true == false) = false from rfl, thn_ok, sPick_eq, if_true, Bool.false_eq_true, if_false, sLoad1, ln, ll0, ll1, ls, Res.bind_ok, sGtr, sOff_eq, Nat.zero_add, Nat.add_zero, sLen_T, sEql, sLref_tok, sField_kind, sField_at, sLss, decide_eq_false c1, sG_skip, condX_eq]
    exact hh
  refine first ?_
  rw [refinerylaw04_LexAny_jr1111111101010011100111101011_1_eq hJ]
  by_cases hf : f = 0
  ·obtain ⟨ev5, ev6⟩ := ev4 hf
   subst hf
   have z0 : decide ((0 : Int) = 0) = true := rfl
   simp only [sNeq, z0, Bool.not_true, thn_ok, condX_eq, cond_false, refinerylaw04_LexAny_jr1111111101010011100111101011_3_eq hJ, sLref_tok, sField_kind]
   have last4 : Ok (refinerylaw04_LexAny_jr1111111101010011100111101011_4 J (P nb 0) (P lb 0) (vTok t) s1) Q := by
    rw [refinerylaw04_LexAny_jr1111111101010011100111101011_4_eq hJ]
    have t1 : s1.storeN nb 0 [I t.at_] = .ok (s1.put nb (.cells [I t.at_])) := by
     have : s1.ro ≤ nb := by omega
     simp [gn, Res.need, this]
    have t2 : (s1.put nb (.cells [I t.at_])).storeN lb 0 (cTok t) = .ok ((s1.put nb (.cells [I t.at_])).put lb (.cells (cTok t))) := by
     have hr : s1.ro ≤ lb := by omega
     have g : (s1.put nb (.cells [I t.at_])).get lb = some (.cells (cTok last)) := by rw [get_put, if_neg (by omega)]; exact gl
     have hr' : (s1.put nb (.cells [I t.at_])).ro ≤ lb := hr
     rw [storeN_def, g]
     simp only []
     rw [need_dec hr', need_dec (by simp [cTok])]
     simp [cTok, Res.need]
    have hsty : ∀ l b, sStays l b nothing (fun s => Res.ok (vTok t, s)) (vTok t) = true := fun l b => sStays_same (sameVal_tok t)
    simp only [sLref_tok, thn_ok, sField_at, sStore_int, decide_true, Res.need_true, Res.bind_ok, t1, sField_tok, hsty, sStore_tok, t2]
    have gL2 : ((s1.put nb (.cells [I t.at_])).put lb (.cells (cTok t))).get L = some (.loop E [58, 59] lyA lyB .busy .normal) := by
     rw [get_put, if_neg (by omega), get_put, if_neg (by omega)]; exact gL
    rw [← hQ]
    refine ⟨(AExit.normal, _), rfl, _, _, _, _, _, _, gL2, true, rfl, .inl ⟨t, ?_, ev6⟩⟩
    have EX : Ext s0 (((s1.put nb (.cells [I t.at_])).put lb (.cells (cTok t))).put L (.loop E [58, 59] lyA lyB .ready .normal)) := ((hX.put (by omega) _).put (by omega) _).put (by omega) _
    exact {
     ext := EX
     vars := hv0.mono EX
     m0 := m0, m1 := m1, m2 := m2, m3 := m3, lt := by show L < s1.next; omega
     gn := by rw [get_put, if_neg (by omega), get_put, if_neg (by omega), get_put, if_pos rfl]
     gl := by rw [get_put, if_neg (by omega), get_put, if_pos rfl]
     gx := by rw [get_put, if_neg (by omega), get_put, if_neg (by omega), get_put, if_neg (by omega), old _ (by omega) (by omega)]; exact h.gx
     gL := by rw [get_put, if_pos rfl] }
   by_cases b1 : t.kind = 0
   ·simpa [b1] using last4
   ·by_cases b2 : t.text = []
    ·simpa [b1, b2, T_bstr] using last4
    ·obtain ⟨w1, w2⟩ := ev5 b2
     have hw : IntKind.i64.wrap ((t.at_ : Int) + (t.text.length : Nat)) = ((t.at_ + t.text.length : Nat) : Int) := by rw [wrap_id (by omega)]; omega
     have hsl2 := sSlice_mid (k := .i64) (k' := .i64) s s1 (a := t.at_) (b := t.at_ + t.text.length) (by omega) w1
     rw [w2] at hsl2
     have e1 : sBin .neq (T t.text) (.string (bstr [])) s1 = .ok (B true, s1) := by rw [T_bstr, sNeq_T, decide_eq_false b2]; rfl
     have e2 : sBin .neq (T t.text) (T t.text) s1 = .ok (B false, s1) := by rw [sNeq_T, decide_eq_true rfl]; rfl
     simp only [decide_eq_false b1, Bool.not_false, sGo_eq, sLref_tok, sField_text, beq_self_eq_true, cond_true, thn_ok, e1, sLoad1, ls, Res.bind_ok, sField_at, sLen_T, sAdd, hw, hsl2, e2, sPick_eq, if_true, condX_eq, cond_false]
     exact last4
  ·obtain ⟨h1, h2, h3⟩ := ev3 hf
   have hb : ∀ s', sBuild [U 0, I 0, .string (bstr []), I 0] [(1, 1, I (x.2.1 : Nat))] s' = .ok (vTok (endT x.2.1), s') := fun s' => rfl
   have e1 : decide ((x.2.2 : Int) = f) = true := decide_eq_true h1.symm
   have e2 : decide (((x.2.1 : Nat) : Int) = ((endT x.2.1).at_ : Nat)) = true := decide_eq_true rfl
   subst h2
   simp only [sNeq, decide_eq_false hf, Bool.not_false, thn_ok, condX_eq, cond_true, sLoad1, le, la, Res.bind_ok, e1, Bool.not_true, sG_eq, beq_self_eq_true, sLref_tok, sField_at, e2, sPick_eq, Bool.false_eq_true, if_false, sField_tok, hb, sEq_tok, decide_true, cond_false, refinerylaw04_LexAny_jr1111111101010011100111101011_2_eq hJ]
   rw [← hQ]
   refine ⟨(AExit.exit 4, _), rfl, _, _, _, _, _, _, gL, false, rfl, .inr ⟨rfl, last, ?_⟩⟩
   have EX : Ext s0 (s1.put L (.loop E [58, 59] lyA lyB .done (.exit 4))) := hX.put (by omega) _
   exact {
    ext := EX
    vars := hv0.mono EX
    m0 := m0, m1 := m1, m2 := m2, m3 := m3, lt := by show L < s1.next; omega
    gn := by rw [get_put, if_neg (by omega)]; exact gn
    gl := by rw [get_put, if_neg (by omega)]; exact gl
    gx := by rw [get_put, if_neg (by omega), old _ (by omega) (by omega)]; exact h.gx
    gL := by rw [get_put, if_pos rfl] }
theorem Any_j8 {J} (hJ : IsJ K (retK refinerylaw04_LexAny_c.results) J) {st s4 : St} {rb sb eb i : Nat} {s : List UInt8} {x : List Tok × Nat × Int} {vg v44 : Value} {ig : List Nat} {s3 : St} (hsl : s.length ≤ 100000) (hi : i < 2) (h4 : SplitR s3 x vg s4 ig) (hE : Ext s4 st) (hx : AllOk s x)
 (gs : st.get sb = some (.cells [T s])) (ge : st.get eb = some (.cells [I x.2.2])) {Q : Value × St → Prop}
 (hfin : Ok (refinerylaw04_LexAny_l1 J (P rb 0) nothing nothing v44 (I 2) (I ((i + 1 : Nat) : Int)) st) Q) :
 Ok (refinerylaw04_LexAny_j8 J (P rb 0) (P sb 0) vg (P eb 0) nothing nothing v44 (I 2) (I i) st) Q := by
 rw [refinerylaw04_LexAny_j8_eq hJ]
 have ls : st.load1 sb 0 = .ok (T s) := load1_eq gs rfl
 have le : st.load1 eb 0 = .ok (I x.2.2) := load1_eq ge rfl
 have hw : IntKind.i64.wrap ((i : Int) + 1) = ((i + 1 : Nat) : Int) := by rw [wrap_id (by omega)]; omega
 have hlen : ∀ s, sLen .slice vg s = .ok (I x.1.length, s) := h4.len
 unfold AllOk at hx
 by_cases h : x.2.2 = 0
 ·rw [if_pos h] at hx
  obtain ⟨ts, e, hll⟩ := hx
  have hl : x.1.length = ts.length + 1 := by rw [e]; simp
  have hat : x.1[ts.length]? = some (endT s.length) := by rw [e]; simp
  obtain ⟨b, o, k1, _, k2⟩ := h4.at hat
  have k3 := (k2 st hE).2 1 (I s.length) rfl
  have hn0 : decide (((x.1.length : Nat) : Int) = 0) = false := decide_eq_false (by omega)
  have hsub : IntKind.i64.wrap (((x.1.length : Nat) : Int) - 1) = ((ts.length : Nat) : Int) := by rw [wrap_id (by omega)]; omega
  simp only [sLoad1, le, Res.bind_ok, thn_ok, sEql, decide_eq_true h, sGo_eq, beq_self_eq_true, cond_true, hlen, hn0, sSub, hsub, k1, sOff_eq, k3, ls, sLen_T, sNeq, decide_true, Bool.not_true, sPick_eq, Bool.false_eq_true, if_false, if_true, condX_eq, cond_false, show (false == true) = false from rfl, sGo_skip, refinerylaw04_LexAny_j9_eq hJ, sAdd, hw]
  exact hfin
 ·rw [if_neg h] at hx
  have hl : x.1.length = 0 := by rw [hx]; rfl
  rw [hl] at hlen
  have z : decide ((0 : Int) < ((0 : Nat) : Int)) = false := rfl
  simp only [sLoad1, le, Res.bind_ok, thn_ok, sEql, decide_eq_false h, sGo_eq, beq_self_eq_true, cond_true, show (false == true) = false from rfl, cond_false, sGo_skip, sPick_eq, Bool.false_eq_true, if_false, sNeq, Bool.not_false, hlen, sGtr, z, if_true, condX_eq, refinerylaw04_LexAny_j9_eq hJ, sAdd, hw]
  exact hfin
theorem Any_one {J} (hJ : IsJ K (retK refinerylaw04_LexAny_c.results) J) {st : St} (hv : VOk st) {rb q i : Nat} {s : List UInt8} {xs : List Value} (hsl : s.length ≤ 100000) (hi : i < 2) (gq : st.get q = some (.cells xs)) (hx : xs[i]? = some (T s)) {Q : Value × St → Prop}
 (hfin : ∀ st', Ext st st' → Ok (refinerylaw04_LexAny_l1 J (P rb 0) nothing nothing (.slice (some ⟨q, 0, none⟩) 2 1) (I 2) (I ((i + 1 : Nat) : Int)) st') Q) :
 Ok (refinerylaw04_LexAny_l1 J (P rb 0) nothing nothing (.slice (some ⟨q, 0, none⟩) 2 1) (I 2) (I i) st) Q := by
 refine refinerylaw04_LexAny_l1_of hF hJ ?_
 rw [refinerylaw04_LexAny_l1_eq]
 have h1 : (i : Int) < 2 := by omega
 have hixa : sIxA 1 none (.slice (some ⟨q, 0, none⟩) 2 1) (I (i : Nat)) st = .ok (P q i, st) := by
  have h1 : (0 : Int) ≤ ((i : Nat) : Int) ∧ ((i : Nat) : Int) < (2 : Nat) := by omega
  simp only [sIxA, index, if_pos h1, decide_true, Res.need_true, Res.bind_ok, Res.pure_eq, Int.toNat_natCast]
  simp
 have hld : st.load1 q i = .ok (T s) := load1_eq gq hx
 have r0 := hv.ro
 have p1 : sNew [.string (bstr [])] st = .ok (P st.next 0, st.alloc (.cells [.string (bstr [])])) := rfl
 have p2 : sStore 1 (P st.next 0) (T s) (st.alloc (.cells [.string (bstr [])])) = .ok (nothing, (st.alloc (.cells [.string (bstr [])])).put st.next (.cells [T s])) := by simp [r0, Res.need]
 generalize hb1 : (st.alloc (.cells [.string (bstr [])])).put st.next (.cells [T s]) = b1 at p2
 have nb1 : b1.next = st.next + 1 := by rw [← hb1]; rfl
 have F1 : Ext st b1 := by rw [← hb1]; exact (Ext.alloc (Ext.refl _) _).put (Nat.le_refl _) _
 have gb1 : b1.get st.next = some (.cells [T s]) := by rw [← hb1, get_put, if_pos rfl]
 clear hb1
 have lb1 : b1.load1 st.next 0 = .ok (T s) := load1_eq gb1 rfl
 have v1 := hv.mono F1
 simp only [sLss, decide_eq_true h1, thn_ok, condX_eq, cond_true, refinerylaw04_LexAny_j5_eq hJ, hixa, sLoad1, hld, Res.bind_ok, p1, p2, lb1]
 refine Split_thn hF (by unfold Short; omega) v1 fun vg s4 ig h4 => ?_
 have v4 := v1.mono h4.ext
 obtain ⟨hev, hall⟩ := events_ok hsl
 generalize hxx : split (events s) = x at *
 have r4 := v4.ro
 have p3 : sNew [I 0] s4 = .ok (P s4.next 0, s4.alloc (.cells [I 0])) := rfl
 have p4 : sNew [I 0] (s4.alloc (.cells [I 0])) = .ok (P (s4.next + 1) 0, (s4.alloc (.cells [I 0])).alloc (.cells [I 0])) := rfl
 have p5 : sStore 1 (P s4.next 0) (I x.2.1) ((s4.alloc (.cells [I 0])).alloc (.cells [I 0])) = .ok (nothing, ((s4.alloc (.cells [I 0])).alloc (.cells [I 0])).put s4.next (.cells [I x.2.1])) := by simp [r4, Res.need]
 have p6 : sStore 1 (P (s4.next + 1) 0) (I x.2.2) (((s4.alloc (.cells [I 0])).alloc (.cells [I 0])).put s4.next (.cells [I x.2.1])) = .ok (nothing, (((s4.alloc (.cells [I 0])).alloc (.cells [I 0])).put s4.next (.cells [I x.2.1])).put (s4.next + 1) (.cells [I x.2.2])) := by
  have : s4.ro ≤ s4.next + 1 := by omega
  simp [this, Res.need]
 generalize hb5 : (((s4.alloc (.cells [I 0])).alloc (.cells [I 0])).put s4.next (.cells [I x.2.1])) = b5 at p5 p6
 generalize hb6 : b5.put (s4.next + 1) (.cells [I x.2.2]) = b6 at p6
 have n6 : b6.next = s4.next + 2 := by rw [← hb6, ← hb5]; rfl
 have F6 : Ext s4 b6 := by rw [← hb6, ← hb5]; exact (((Ext.alloc (Ext.refl _) _).alloc _).put (Nat.le_refl _) _).put (Nat.le_succ _) _
 have ga6 : b6.get s4.next = some (.cells [I x.2.1]) := by rw [← hb6, get_put, if_neg (by omega), ← hb5, get_put, if_pos rfl]
 have ge6 : b6.get (s4.next + 1) = some (.cells [I x.2.2]) := by rw [← hb6, get_put, if_pos rfl]
 clear hb6
 have r6 : b6.ro ≤ b6.next := F6.roOk r4
 have p7 : sNew [I 0] b6 = .ok (P b6.next 0, b6.alloc (.cells [I 0])) := rfl
 have p8 : sStore 1 (P b6.next 0) (I 0) (b6.alloc (.cells [I 0])) = .ok (nothing, (b6.alloc (.cells [I 0])).put b6.next (.cells [I 0])) := by simp [r6, Res.need]
 generalize hb7 : (b6.alloc (.cells [I 0])).put b6.next (.cells [I 0]) = b7 at p8
 have n7 : b7.next = b6.next + 1 := by rw [← hb7]; rfl
 have F7 : Ext b6 b7 := by rw [← hb7]; exact (Ext.alloc (Ext.refl _) _).put (Nat.le_refl _) _
 have gn7 : b7.get b6.next = some (.cells [I 0]) := by rw [← hb7, get_put, if_pos rfl]
 clear hb7
 have p9 : sNew [U 0, I 0, .string (bstr []), I 0] b7 = .ok (P b7.next 0, b7.alloc (.cells (cTok ⟨0, 0, [], 0⟩))) := rfl
 generalize hb8 : b7.alloc (.cells (cTok ⟨0, 0, [], 0⟩)) = b8 at p9
 have n8 : b8.next = b7.next + 1 := by rw [← hb8]; rfl
 have F8 : Ext b7 b8 := by rw [← hb8]; simp
 have gl8 : b8.get b7.next = some (.cells (cTok ⟨0, 0, [], 0⟩)) := by rw [← hb8, get_alloc, if_pos rfl]
 clear hb8
 have ns4 := h4.ext.next
 have lb8 : b8.load1 st.next 0 = .ok (T s) := load1_eq (by rw [F8.get _ (by omega), F7.get _ (by omega), F6.get _ (by omega), h4.ext.get _ (by omega)]; exact gb1) rfl
 simp only [sExtract_eq, List.getElem?_toArray, List.getElem?_cons_zero, List.getElem?_cons_succ, Res.of_some, Res.bind_ok, thn_ok, p3, p4, p5, p6, p7, p8, p9, lb8]
 have f9 : Ok (K.go (.call n_lex_Tokens [T s]) b8) fun r => r = (.func (.func n_lex_Tokens_1) #[] #[P b8.next 0], b8.alloc (.cells [T s])) := by
  refine lex_Tokens_of hF fun J hJ => ?_
  rw [lex_Tokens_eq]
  simp
 refine f9.thn fun r hr => ?_
 subst hr
 simp only
 rw [refinerylaw04_LexAny_j7_eq hJ]
 have F9 : Ext b8 (b8.alloc (.cells [T s])) := by simp
 have gb9 : (b8.alloc (.cells [T s])).get b8.next = some (.cells [T s]) := by rw [get_alloc, if_pos rfl]
 have n9 : (b8.alloc (.cells [T s])).next = b8.next + 1 := rfl
 generalize (b8.alloc (.cells [T s])) = b9 at *
 have hcall : taskOf (.func (.func n_lex_Tokens_1) #[] #[P b8.next 0]) [.func (.yield b9.next) #[] #[]] = .ok (.call n_lex_Tokens_1 [.func (.yield b9.next) #[] #[], P b8.next 0]) := by simp [taskOf]
 refine sRange_any hcall rfl ?_
 generalize ho : AObj.loop _ _ _ _ _ _ = o
 have gL : (b9.alloc o).get b9.next = some o := by rw [get_alloc, if_pos rfl]
 have F10 : Ext b9 (b9.alloc o) := by simp
 have n10 : (b9.alloc o).next = b9.next + 1 := rfl
 generalize (b9.alloc o) = b10 at *
 have v6 := v4.mono F6
 have EB : Ext b6 b10 := ((F7.trans F8).trans F9).trans F10
 have gs6 : b6.get st.next = some (.cells [T s]) := by rw [F6.get _ (by omega), h4.ext.get _ (by omega)]; exact gb1
 have init : APs b6 b6.next b7.next b8.next b9.next s x (lyE (P rb 0) (P st.next 0) vg (P s4.next 0) (P (s4.next + 1) 0) (P b6.next 0) (P b7.next 0) (.slice (some ⟨q, 0, none⟩) 2 1) (I 2) (I i) (.func (.func n_lex_Tokens_1) #[] #[P b8.next 0])) (events s) b10 := by
  refine .inl ⟨⟨0, 0, [], 0⟩, ?_, hev⟩
  exact {
   ext := EB
   vars := v6.mono EB
   m0 := Nat.le_refl _, m1 := by omega, m2 := by omega, m3 := by omega, lt := by omega
   gn := by rw [F10.get _ (by omega), F9.get _ (by omega), F8.get _ (by omega)]; exact gn7
   gl := by rw [F10.get _ (by omega), F9.get _ (by omega)]; exact gl8
   gx := by rw [F10.get _ (by omega)]; exact gb9
   gL := by rw [gL, ← ho]; rfl }
 refine (Tokens1_ok hF (Any_sees hF v6.ro v6 hsl gs6 ga6 ge6 (by omega) (by omega) (by omega)) (by unfold Short; omega) init).mono fun r ⟨_, hr⟩ => ?_
 have fin : ∀ (last : Tok) (E : Env) (sl : LoopState) (pd : AExit), AP b6 r.2 b6.next b7.next b8.next b9.next s E last sl pd →
  Ok (refinerylaw04_LexAny_j8 J (P rb 0) (P st.next 0) vg (P (s4.next + 1) 0) nothing nothing (.slice (some ⟨q, 0, none⟩) 2 1) (I 2) (I i) (r.2.put b9.next .dead)) Q := fun last E sl pd h => by
  have hn := h.ext.next
  have EE : Ext b6 (r.2.put b9.next .dead) := h.ext.put (by omega) _
  exact Any_j8 hF hJ hsl hi h4 (F6.trans EE) hall (by rw [EE.get _ (by omega)]; exact gs6) (by rw [EE.get _ (by omega)]; exact ge6) (hfin _ (((F1.trans h4.ext).trans F6).trans EE))
 rcases hr with ⟨last, h, _⟩ | ⟨_, last, h⟩
 ·refine ⟨_, _, _, _, _, _, h.gL, rfl, ?_⟩
  rw [refinerylaw04_LexAny_x0_n]
  exact fin last _ _ _ h
 ·refine ⟨_, _, _, _, _, _, h.gL, rfl, ?_⟩
  rw [refinerylaw04_LexAny_x0_e4]
  exact fin last _ _ _ h
theorem Made_loop {J} (hJ : IsJ K (retK refinerylaw04_LexAny_c.results) J) {A : Nat → Prop} {v0 v4 v27 : Value} {l : List Int} {st : St} (hR : RSl A st 1 (fun cs n => cs = [U n]) v27 l) (hb : ∀ n ∈ l, 0 ≤ n ∧ n ≤ 255) (hlen : l.length ≤ 1000) {Q : Value × St → Prop}
 (hfin : ∀ s : List UInt8, s.length ≤ 1000 → Ok (refinerylaw04_LexAny_j3 J v0 v4 (T s) nothing nothing st) Q) : ∀ (d j : Nat) (s : List UInt8), j + d = l.length → s.length = j →
 Ok (refinerylaw04_LexAny_l0 J v0 v4 (T s) nothing nothing v27 (I l.length) (I j) st) Q := by
 intro d
 induction d with
 | zero =>
   intro j s hj hs
   refine refinerylaw04_LexAny_l0_of hF hJ ?_
   rw [refinerylaw04_LexAny_l0_eq]
   have h1 : ¬ (j : Int) < (l.length : Nat) := by omega
   simp only [sLss, decide_eq_false h1, thn_ok, condX_eq, cond_false]
   exact hfin s (by omega)
 | succ d ih =>
   intro j s hj hs
   refine refinerylaw04_LexAny_l0_of hF hJ ?_
   rw [refinerylaw04_LexAny_l0_eq]
   have hlt : j < l.length := by omega
   have h1 : (j : Int) < (l.length : Nat) := by omega
   obtain ⟨b, o, k1, k2, _⟩ := hR.at1 (f := fun n => U n) (List.getElem?_eq_getElem hlt)
   have hbn := hb _ (List.getElem_mem hlt)
   generalize l[j] = n at *
   have k2 := k2 st (Agree.refl _ _)
   obtain ⟨m, hm, hm1⟩ : ∃ m : Nat, n.tmod 23 = m ∧ m < 23 := ⟨(n % 23).toNat, by rw [Int.tmod_eq_emod_of_nonneg hbn.1]; omega, by omega⟩
   have w1 : IntKind.u8.wrap ((m : Int) + 1) = ((m + 1 : Nat) : Int) := by rw [Go.IntWalk.u8_in _ (by omega)]; omega
   have hsl := sSlice_mid (k := .u8) (k' := .u8) [37, 64, 36, 97, 98, 45, 48, 49, 50, 51, 52, 53, 54, 55, 56, 57, 61, 44, 58, 32, 10, 35, 33] st (a := m) (b := m + 1) (by omega) (by simp; omega)
   rw [← T_bstr] at hsl
   have hw : IntKind.i64.wrap ((j : Int) + 1) = ((j + 1 : Nat) : Int) := by rw [wrap_id (by omega)]; omega
   generalize hc : (List.take (m + 1) ([37, 64, 36, 97, 98, 45, 48, 49, 50, 51, 52, 53, 54, 55, 56, 57, 61, 44, 58, 32, 10, 35, 33] : List UInt8)).drop m = c at hsl
   have hcl : c.length = 1 := by rw [← hc, List.length_drop, List.length_take]; simp; omega
   have ha := sAdd_T s c st (by omega)
   simp only [sLss, decide_eq_true h1, thn_ok, condX_eq, cond_true, refinerylaw04_LexAny_j2_eq hJ, k1, sLoad1, k2, Res.bind_ok, sRem _ _ _ (show (23 : Int) ≠ 0 by decide), hm, sAdd, w1, hsl, ha, refinerylaw04_LexAny_j4_eq hJ, hw]
   exact ih (j + 1) (s ++ c) (by omega) (by simp; omega)
theorem LexAny_ok {st : St} (hv : VOk st) {raw : List UInt8} {v : Value} {l : List Int} (hR : RSl (Bel st.next) st 1 (fun cs n => cs = [U n]) v l) (hb : ∀ n ∈ l, 0 ≤ n ∧ n ≤ 255) : Ok (K.go (.call n_refinerylaw04_LexAny [T raw, v]) st) fun r => r.1 = B true := by
 refine refinerylaw04_LexAny_of hF fun J hJ => ?_
 rw [refinerylaw04_LexAny_eq]
 have q1 : sNew [.bool false] st = .ok (P st.next 0, st.alloc (.cells [B false])) := rfl
 generalize ha1 : st.alloc (.cells [B false]) = a1 at q1
 have n1 : a1.next = st.next + 1 := by rw [← ha1]; rfl
 have E1 : Ext st a1 := by rw [← ha1]; simp
 have g1 : a1.get st.next = some (.cells [B false]) := by rw [← ha1, get_alloc, if_pos rfl]
 clear ha1
 have v1 := hv.mono E1
 simp only [q1, thn_ok]
 refine (Awake04_ok hF v1).call fun s1 E2 => ?_
 have v2 := v1.mono E2
 have nn2 := E2.next
 have EX := E1.trans E2
 have hend : ∀ s2, Ext s1 s2 → Ok (refinerylaw04_LexAny_j6 J (P st.next 0) s2) fun r => r.1 = B true := fun s2 hE => by
  rw [refinerylaw04_LexAny_j6_eq hJ]
  have g : s2.get st.next = some (.cells [B false]) := by rw [hE.get _ (by omega), E2.get _ (by omega)]; exact g1
  have hro := hv.ro
  have hr : s2.ro ≤ st.next := by rw [hE.ro, EX.ro]; exact hro
  have hst : s2.storeN st.next 0 [B true] = .ok (s2.put st.next (.cells [B true])) := by simp [g, Res.need, hr]
  have lr : (s2.put st.next (.cells [B true])).load1 st.next 0 = .ok (B true) := load1_eq (xs := [B true]) (by rw [get_put, if_pos rfl]) rfl
  simp only [sStore_bool, decide_true, Res.need_true, Res.bind_ok, hst, thn_ok, sLoad1, lr]
  exact ⟨_, rfl, rfl⟩
 have hR1 : RSl (Bel s1.next) s1 1 (fun cs n => cs = [U n]) v l := hR.mono (fun id h => Nat.lt_of_lt_of_le h EX.next) (EX.agree fun _ h => h) fun _ _ _ h => h
 have big : Ok (Res.thn s1 (sStore 1 (P st.next 0) (.bool true) s1) fun p7 => (sLoad none (P st.next 0) p7.2 >>= fun p8 => Res.ok [p8.1]) >>= fun vs => Res.ok (oneOf vs, p7.2)) fun r => r.1 = B true := by
  have := hend s1 (.refl _)
  rw [refinerylaw04_LexAny_j6_eq hJ] at this
  exact this
 simp only [sUn_not, Bool.not_true, thn_ok, condX_eq, cond_false, refinerylaw04_LexAny_j0_eq hJ, sLen_T, sGtr]
 by_cases h1 : (200 : Int) < raw.length
 ·simp only [decide_eq_true h1, sG_eq, show (true == false) = false from rfl, cond_false, thn_ok, sPick_eq, if_true, condX_eq, cond_true]
  exact big
 by_cases h2 : (100 : Int) < l.length
 ·simp only [decide_eq_false h1, sG_eq, beq_self_eq_true, cond_true, thn_ok, hR.len, sGtr, decide_eq_true h2, sPick_eq, Bool.false_eq_true, if_false, condX_eq]
  exact big
 simp only [decide_eq_false h1, decide_eq_false h2, sG_eq, beq_self_eq_true, cond_true, thn_ok, hR.len, sGtr, sPick_eq, Bool.false_eq_true, if_false, condX_eq, cond_false, refinerylaw04_LexAny_j1_eq hJ, T_bstr]
 refine Made_loop hF hJ hR1 hb (by omega) (Q := fun r => r.1 = B true) (fun s hs => ?_) l.length 0 [] (by omega) rfl
 rw [refinerylaw04_LexAny_j3_eq hJ]
 have hlit : sLit 1 2 [.string (bstr []), .string (bstr [])] [(0, 1, T raw), (1, 1, T s)] s1 = .ok (.slice (some ⟨s1.next, 0, none⟩) 2 1, s1.alloc (.cells [T raw, T s])) := rfl
 have E3 : Ext s1 (s1.alloc (.cells [T raw, T s])) := (Ext.refl s1).alloc _
 have g3 : (s1.alloc (.cells [T raw, T s])).get s1.next = some (.cells [T raw, T s]) := by rw [get_alloc, if_pos rfl]
 have n3 : (s1.alloc (.cells [T raw, T s])).next = s1.next + 1 := rfl
 generalize s1.alloc (.cells [T raw, T s]) = s3 at *
 have hl2 : ∀ s', sLen .slice (.slice (some ⟨s1.next, 0, none⟩) 2 1) s' = .ok (I 2, s') := fun s' => rfl
 simp only [hlit, thn_ok, hl2]
 have v3 := v2.mono E3
 refine Any_one hF hJ v3 (i := 0) (s := raw) (by omega) (by omega) g3 rfl fun s4 E4 => ?_
 have v4 := v3.mono E4
 refine Any_one hF hJ v4 (i := 1) (s := s) (by omega) (by omega) (by rw [E4.get _ (by omega)]; exact g3) rfl fun s5 E5 => ?_
 refine refinerylaw04_LexAny_l1_of hF hJ ?_
 rw [refinerylaw04_LexAny_l1_eq]
 have h3 : ¬ (((1 + 1 : Nat) : Int)) < 2 := by omega
 simp only [sLss, decide_eq_false h3, thn_ok, condX_eq, cond_false]
 exact hend s5 ((E3.trans E4).trans E5)
theorem LexAny_args {st : St} (hv : VOk st) (args : List Value) (h : WVs pg st [9, 55] args) : Ok (K.go (.call n_refinerylaw04_LexAny args) st) fun r => r.1 = .bool true := by
 match args, h with
 | [v0, v1], ⟨h0, h1, _⟩ =>
   obtain ⟨raw, rfl, _⟩ := h0.str Tryd.underlying9
   obtain ⟨l, hl, _⟩ := h1.rsl Tryd.underlying55 (c := 1) (R := fun cs n => cs = [U n] ∧ 0 ≤ n ∧ n ≤ 255) (by kernel_rfl) fun cs hw => by
    obtain ⟨n, e, w⟩ := hw.getInt Tryd.underlying5
    refine ⟨n, e, ?_⟩
    simpa [Lit.wf, IntKind.min, IntKind.max, IntKind.signed, IntKind.bits] using w
   rw [T_of]
   refine LexAny_ok hF hv (l := l) (hl.mono (fun _ h => h) (Agree.refl _ _) fun _ _ _ h => h.1) fun n hn => ?_
   obtain ⟨i, hi⟩ := List.getElem?_of_mem hn
   rcases hl with ⟨rfl, _⟩ | ⟨b, o, xs, _, _, _, _, h5⟩
   ·cases hn
   ·exact (h5 i n hi).2
end Go.Proofs.YtefdkodjpcabmaaDoor.Sh
