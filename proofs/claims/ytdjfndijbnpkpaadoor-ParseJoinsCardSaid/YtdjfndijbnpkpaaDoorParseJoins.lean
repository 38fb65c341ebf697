/-
  ParseJoins: whatever it is given, the law's function answers true.
-/
import Derived.Test.YtdjfndijbnpkpaaDoorPCnt
import Derived.Test.YtdjfndijbnpkpaaDoorShL7
set_option linter.unusedVariables false
set_option linter.unusedSimpArgs false
set_option linter.unusedSectionVars false
set_option linter.unnecessarySimpa false
set_option maxRecDepth 100000
namespace Go.AM
section
variable {α : Type} {s : Nat} {R : Rep α} {st st' : St} {v w : Value} {l m : List α} {ids js : List Nat}
theorem flat_set1 : ∀ {css : List (List Value)} (h : ∀ cs ∈ css, cs.length = s) {i k : Nat} {cs : List Value} {x : Value}, css[i]? = some cs → k < s → splice css.flatten (i * s + k) [x] = (css.set i (cs.set k x)).flatten := by
 intro css h i k cs x hi hk
 have hil := (List.getElem?_eq_some_iff.1 hi).1
 have hcl := h cs (List.mem_of_getElem? hi)
 have hf := flat_set h (i := i) (cs := cs.set k x) hil (by rw [List.length_set]; exact hcl)
 rw [← hf]
 have hp := flat_at h hi
 have hlen := flat_len h
 have hle : i * s + s ≤ css.flatten.length := by rw [hlen, ← Nat.succ_mul]; exact Nat.mul_le_mul_right s hil
 generalize css.flatten = xs at *
 unfold splice
 rw [List.length_set, hcl, List.length_singleton]
 have e1 : xs.take (i * s + k) = xs.take (i * s) ++ cs.take k := by
  rw [List.take_add]
  congr 1
  rw [← hp, List.take_take, Nat.min_eq_left (by omega)]
 have e2 : xs.drop (i * s + k + 1) = cs.drop (k + 1) ++ xs.drop (i * s + s) := by
  have : xs.drop (i * s) = cs ++ xs.drop (i * s + s) := by
   have := List.take_append_drop s (xs.drop (i * s))
   rw [hp, List.drop_drop] at this
   exact this.symm
  rw [Nat.add_assoc, ← List.drop_drop, this, List.drop_append, show k + 1 - cs.length = 0 by omega, List.drop_zero]
 rw [e1, e2, List.set_eq_take_append_cons_drop, if_pos (by omega)]
 simp
theorem flat_st1 {b : Nat} {css : List (List Value)} (hg : st.get b = some (.cells css.flatten)) (h : ∀ cs ∈ css, cs.length = s) {i k : Nat} {cs : List Value} {x : Value} (hi : css[i]? = some cs) (hk : k < s) (hro : st.ro ≤ b) (hx : cellOk x = true) :
 st.storeN b (i * s + k) [x] = .ok (st.put b (.cells (css.set i (cs.set k x)).flatten)) := by
 have hil := (List.getElem?_eq_some_iff.1 hi).1
 have hlen := flat_len h
 have hle : i * s + s ≤ css.flatten.length := by rw [hlen, ← Nat.succ_mul]; exact Nat.mul_le_mul_right s hil
 have hneed : ∀ {b : Bool} {t : String}, b = true → Res.need b t = .ok () := fun h => by subst h; rfl
 rw [storeN_def, hg]
 simp only [need_dec hro, need_dec (show i * s + k + [x].length ≤ css.flatten.length by simp only [List.length_singleton]; omega), hneed (show [x].all cellOk = true by simp [hx]), Res.bind_ok, flat_set1 h hi hk]
theorem flat_ld1 {b : Nat} {css : List (List Value)} (hg : st.get b = some (.cells css.flatten)) (h : ∀ cs ∈ css, cs.length = s) {i k : Nat} {cs : List Value} {x : Value} (hi : css[i]? = some cs) (hk : cs[k]? = some x) : st.load1 b (i * s + k) = .ok x := by
 have hcl := h cs (List.mem_of_getElem? hi)
 have hks : k < s := by have := (List.getElem?_eq_some_iff.1 hk).1; omega
 have hp := flat_at h hi
 rw [load1_def, hg]
 simp only []
 have : css.flatten[i * s + k]? = some x := by
  rw [← hp, List.getElem?_take, if_pos hks, List.getElem?_drop] at hk
  exact hk
 rw [this]; rfl
theorem RepSl.app {bytes : Nat} (hF : Framed R) (h : RepSl s R st v l ids) (k : RepSl s R st w m js) (hs : 0 < s) (hl : l ≠ []) (hm : m ≠ []) (hlt : ∀ id ∈ ids ++ js, id < st.next) (hro : ∀ id ∈ ids, st.ro ≤ id) (hnd : (ids ++ js).Nodup) (hb : (l.length + m.length) * bytes ≤ 2 ^ 46) :
 ∃ (v' : Value) (st' : St) (ids' : List Nat), sAppend s bytes v w st = .ok (v', st') ∧ RepSl s R st' v' (l ++ m) ids' ∧ (∀ id ∈ ids', id < st'.next) ∧ (∀ id, id < st.next → id ∉ ids → st'.get id = st.get id) ∧ st.next < st'.next ∧ st'.ro = st.ro := by
 have hneed : ∀ {b : Bool} {t : String}, b = true → Res.need b t = .ok () := fun h => by subst h; rfl
 rcases h with ⟨rfl, _⟩ | ⟨b, css, idss, rfl, h2, h3, h4, h5, h6, rfl⟩
 ·exact absurd rfl hl
 rcases k with ⟨rfl, _⟩ | ⟨c, dss, jdss, rfl, k2, k3, k4, k5, k6, rfl⟩
 ·exact absurd rfl hm
 have hm0 : ¬ m.length = 0 := fun e => hm (List.length_eq_zero_iff.1 e)
 have hbl : b < st.next := hlt b (by simp)
 have hrb : st.ro ≤ b := hro b (by simp)
 have hdl : dss.flatten.length = m.length * s := by rw [flat_len fun cs hc => (k5 cs hc).1, k3]
 have hcl : css.flatten.length = l.length * s := by rw [flat_len fun cs hc => (h5 cs hc).1, h3]
 have hck : dss.flatten.all cellOk = true := by
  rw [List.all_eq_true]
  intro x hx
  obtain ⟨cs, hc, hx⟩ := List.mem_flatten.1 hx
  exact List.all_eq_true.1 (k5 cs hc).2 x hx
 have hf : firstL st s m.length (Sl c 0 m.length s) = .ok dss.flatten := by
  simp only [firstL, hneed (decide_eq_true (rfl : s = s)), Res.bind_ok, St.loadN, cells_eq k2, hneed (decide_eq_true (show 0 + m.length * s ≤ dss.flatten.length by omega))]
  rw [List.drop_zero, List.take_of_length_le (by omega)]
  rfl
 have hbb : (l.length + m.length) * bytes ≤ mostBytes := hb
 have hms : 0 < m.length * s := Nat.mul_pos (by omega) hs
 have hfull : ¬ 0 + (l.length + m.length) * s ≤ css.flatten.length := by rw [hcl, Nat.add_mul]; omega
 have hex : 0 + l.length * s = css.flatten.length := by omega
 rw [List.nodup_append] at hnd
 obtain ⟨n1, n2, n3⟩ := hnd
 rw [List.nodup_cons] at n1
 have hkeep : ∀ id, id < st.next → id ≠ b → ((st.put b .dead).alloc (.cells (css.flatten ++ dss.flatten))).get id = st.get id := fun id hi hne => by
  rw [get_alloc, if_neg (by show id ≠ st.next; omega), get_put, if_neg hne]
 refine ⟨Sl st.next 0 (l.length + m.length) s, (st.put b .dead).alloc (.cells (css.flatten ++ dss.flatten)), st.next :: (idss ++ jdss).flatten, ?_, .inr ⟨st.next, css ++ dss, idss ++ jdss, by simp, by rw [get_alloc, if_pos (by rfl)]; simp, by simp [h3, k3], by simp [h4, k4], ?_, ?_, rfl⟩, ?_, fun id hi hne => hkeep id hi fun e => hne (e ▸ List.mem_cons_self ..), Nat.lt_succ_self _, rfl⟩
 ·have hlen : lenL (Sl c 0 m.length s) = .ok m.length := rfl
  simp only [sAppend, aappend, hlen, hf, Res.bind_ok, hneed (decide_eq_true hdl), if_neg hm0, hneed (decide_eq_true hbb), hneed hck, hneed (decide_eq_true (rfl : s = s)), cells_eq h2, hneed (decide_eq_true hrb), if_neg hfull, hneed (decide_eq_true hex), List.drop_zero]
  rfl
 ·intro c hc
  rcases List.mem_append.1 hc with hc | hc
  ·exact h5 c hc
  ·exact k5 c hc
 ·intro i y c2 i2 hy hc hi
  rw [List.getElem?_append] at hy hc hi
  rw [h3] at hc
  rw [h4] at hi
  split at hy
  ·rename_i hil
   rw [if_pos hil] at hc hi
   have hmem : ∀ id ∈ i2, id ∈ idss.flatten := fun id hid => List.mem_flatten.2 ⟨i2, List.mem_of_getElem? hi, hid⟩
   exact hF.fr (h6 i y c2 i2 hy hc hi) fun id hid => hkeep id (hlt id (List.mem_append_left _ (List.mem_cons_of_mem _ (hmem id hid)))) fun e => n1.1 (e ▸ hmem id hid)
  ·rename_i hil
   rw [if_neg hil] at hc hi
   have hmem : ∀ id ∈ i2, id ∈ jdss.flatten := fun id hid => List.mem_flatten.2 ⟨i2, List.mem_of_getElem? hi, hid⟩
   exact hF.fr (k6 _ y c2 i2 hy hc hi) fun id hid => hkeep id (hlt id (List.mem_append_right _ (List.mem_cons_of_mem _ (hmem id hid)))) fun e => n3 b (List.mem_cons_self ..) id (List.mem_cons_of_mem _ (hmem id hid)) e.symm
 ·intro id hid
  show id < st.next + 1
  rcases List.mem_cons.1 hid with rfl | hid
  ·omega
  ·rw [List.flatten_append, List.mem_append] at hid
   rcases hid with hid | hid
   ·have := hlt id (List.mem_append_left _ (List.mem_cons_of_mem _ hid)); omega
   ·have := hlt id (List.mem_append_right _ (List.mem_cons_of_mem _ hid)); omega
end
end Go.AM
namespace Go.Proofs.YtdjfndijbnpkpaaDoor.Sh
open Go Go.AM Go.Proofs Go.AM.Lx
def shL (l : Last) : Last := if l.kind = 0 then { l with yes := l.yes + 1000 } else if l.kind = 1 then { l with yes := l.yes + 1000, no := l.no + 1000 } else l
def shB (b : Block) : Block := { b with label := b.label + 1000, last := shL b.last }
theorem textG_nil_app : ∀ (a b : List Rd) (i j : Nat), textG [] (a ++ b) i = textG [] a i ++ textG [] b j := by
 intro a
 induction a with
 | nil =>
   intro b
   induction b with
   | nil => intro i j; rfl
   | cons p b ih =>
     intro i j
     have := ih (i + 1) (j + 1)
     simp only [List.nil_append, textG] at this ⊢
     rw [this]
     rfl
 | cons p a ih =>
   intro b i j
   rw [List.cons_append, textG, textG, ih b (i + 1) j]
   simp only [List.append_assoc]
theorem rdP_app (p q : Prog) : rdP (p ++ q) = rdP p ++ rdP q := List.flatMap_append
theorem count_sh (q : Prog) : count (q.map shB) = count q := by
 unfold count
 rw [List.map_map]
 rfl
theorem dup_sh : ∀ (q : Prog) (S S' : List Int), dupGo S q = 0 → (∀ x ∈ S', x < 1000 ∨ x - 1000 ∈ S) → (∀ b ∈ q, 0 ≤ b.label ∧ b.label < 1000) → dupGo S' (q.map shB) = 0 := by
 intro q
 induction q with
 | nil => intro _ _ _ _ _; rfl
 | cons b q ih =>
   intro S S' h hS hb
   have hl := hb b (List.mem_cons_self ..)
   rw [dupGo, if_neg (by omega)] at h
   by_cases hm : b.label ∈ S
   ·rw [if_pos hm] at h; cases h
   rw [if_neg hm] at h
   have hn : ¬ (shB b).label ∈ S' := fun hc => by
    have e : (shB b).label = b.label + 1000 := rfl
    rcases hS _ hc with k | k
    ·omega
    ·rw [e, Int.add_sub_cancel] at k; exact hm k
   rw [List.map_cons, dupGo, if_neg (by show ¬ (b.label + 1000 < 0 ∨ 100000 ≤ b.label + 1000); omega), if_neg hn]
   refine ih _ _ h (fun x hx => ?_) fun c hc => hb c (List.mem_cons_of_mem _ hc)
   rcases List.mem_append.1 hx with hx | hx
   ·exact (hS x hx).imp id fun k => List.mem_append_left _ k
   ·rw [List.mem_singleton.1 hx]
    refine .inr (List.mem_append_right _ ?_)
    show b.label + 1000 - 1000 ∈ [b.label]
    rw [Int.add_sub_cancel]; simp
theorem lchk_zero {ls l : List Int} (h : ∀ n ∈ l, n ∈ ls) : lchk ls l = 0 := by
 induction l with
 | nil => rfl
 | cons n l ih => rw [lchk, if_pos (h n (List.mem_cons_self ..))]; exact ih fun x hx => h x (List.mem_cons_of_mem _ hx)
theorem lcheck_more {ls ls' : List Int} {l : Last} (h : l.check ls = 0) (hs : ∀ n ∈ ls, n ∈ ls') : l.check ls' = 0 := by
 unfold Last.check at h ⊢
 split at h
 ·cases h
 ·rename_i c1
  rw [if_neg c1]
  split at h
  ·cases h
  ·rename_i c2
   rw [if_neg c2]
   split at h
   ·cases h
   ·rename_i c3
    rw [if_neg c3]
    exact lchk_zero fun n hn => hs n (lchk_all h n hn)
theorem lcheck_sh {ls ls' : List Int} {l : Last} (h : l.check ls = 0) (hs : ∀ n ∈ ls, n + 1000 ∈ ls') : (shL l).check ls' = 0 := by
 unfold Last.check at h
 split at h
 ·cases h
 ·rename_i c1
  split at h
  ·cases h
  ·rename_i c2
   split at h
   ·cases h
   ·rename_i c3
    have h := lchk_all h
    have c2 : l = l.only := Decidable.not_not.1 c2
    have hk : (shL l).kind = l.kind := by unfold shL; split; rfl; split <;> rfl
    have ha : (shL l).a = l.a := by unfold shL; split; rfl; split <;> rfl
    have ho : shL l = (shL l).only := by
     obtain ⟨k, a, y, n⟩ := l
     unfold shL Last.only at *
     simp only [Last.mk.injEq] at c2
     by_cases k0 : k = 0
     ·subst k0; simp at c2 ⊢; exact c2
     ·by_cases k1 : k = 1
      ·subst k1; simp
      ·simp only [if_neg k0, if_neg k1, false_or] at c2 ⊢
       simp only [Last.mk.injEq]
       exact c2
    unfold Last.check
    rw [hk, if_neg c1, if_neg (fun hc => hc ho), ha, if_neg c3]
    refine lchk_zero fun n hn => ?_
    unfold Last.labels at hn h
    rw [hk] at hn
    by_cases k0 : l.kind = 0
    ·rw [if_pos (.inl k0)] at hn h
     rw [List.mem_singleton.1 hn]
     have e : (shL l).yes = l.yes + 1000 := by unfold shL; rw [if_pos k0]
     rw [e]
     exact hs _ (h _ (by simp))
    ·by_cases k1 : l.kind = 1
     ·have ey : (shL l).yes = l.yes + 1000 := by unfold shL; rw [if_neg k0, if_pos k1]
      have en : (shL l).no = l.no + 1000 := by unfold shL; rw [if_neg k0, if_pos k1]
      rw [ey, en] at hn
      by_cases hyn : l.yes = l.no
      ·rw [if_pos (.inr ⟨k1, by omega⟩)] at hn
       rw [if_pos (.inr ⟨k1, hyn⟩)] at h
       rw [List.mem_singleton.1 hn]
       exact hs _ (h _ (by simp))
      ·rw [if_neg (by omega), if_pos k1] at hn h
       simp only [List.mem_cons, List.not_mem_nil, or_false] at hn
       rcases hn with rfl | rfl
       ·exact hs _ (h _ (by simp))
       ·exact hs _ (h _ (by simp))
     ·rw [if_neg (by omega), if_neg k1] at hn
      cases hn
theorem check_sh {p q : Prog} (hp : check p = 0) (hq : check q = 0) (lp : ∀ b ∈ p, b.label < 1000) (lq : ∀ b ∈ q, 0 ≤ b.label ∧ b.label < 1000) (pp : ∀ b ∈ p, b.phis = []) (pq : ∀ b ∈ q, b.phis = []) (hc : count p + count q ≤ 4000) (hl : p.length + q.length ≤ 400) : check (p ++ q.map shB) = 0 := by
 obtain ⟨p1, p2, p3, p4, p5⟩ := check_parts hp
 obtain ⟨q1, q2, q3, q4, q5⟩ := check_parts hq
 have hcc : count (p ++ q.map shB) = count p + count q := by rw [count_append, count_sh]
 have hd : dupGo [] (p ++ q.map shB) = 0 := by
  rw [dupGo_append, if_pos p1]
  refine dup_sh q [] _ q1 (fun x hx => ?_) lq
  simp only [List.nil_append] at hx
  obtain ⟨b, hb, rfl⟩ := List.mem_map.1 hx
  exact .inl (lp b hb)
 unfold check
 rw [if_neg (by rw [List.length_append, List.length_map]; omega), if_neg (by rw [hcc]; omega), if_pos hd]
 refine ferr_zero fun e he => ?_
 obtain ⟨b, hb, rfl⟩ := List.mem_map.1 he
 have hpar : ∀ {ls : List Int} {c : Block}, c.phis = [] → blockErr ls c = 0 → (∀ x ∈ c.instrs, x.check = 0) ∧ c.last.check ls = 0 := fun {ls c} h0 h => by
  have := ferr_all h
  rw [h0] at this
  refine ⟨fun x hx => this _ ?_, this _ (by simp)⟩
  simp only [List.map_nil, List.nil_append, List.mem_append, List.mem_map]
  exact .inl ⟨x, hx, rfl⟩
 have hmk : ∀ {ls : List Int} {c : Block}, c.phis = [] → (∀ x ∈ c.instrs, x.check = 0) → c.last.check ls = 0 → blockErr ls c = 0 := fun {ls c} h0 h1 h2 => by
  unfold blockErr
  rw [h0]
  refine ferr_zero fun e he => ?_
  simp only [List.map_nil, List.nil_append, List.mem_append, List.mem_map, List.mem_singleton] at he
  rcases he with ⟨x, hx, rfl⟩ | rfl
  ·exact h1 x hx
  ·exact h2
 rw [List.map_append]
 rcases List.mem_append.1 hb with hb | hb
 ·obtain ⟨h1, h2⟩ := hpar (pp b hb) (p2 b hb)
  exact hmk (pp b hb) h1 (lcheck_more h2 fun n hn => List.mem_append_left _ hn)
 ·obtain ⟨c, hc, rfl⟩ := List.mem_map.1 hb
  obtain ⟨h1, h2⟩ := hpar (pq c hc) (q2 c hc)
  refine hmk (show (shB c).phis = [] from pq c hc) h1 (lcheck_sh h2 fun n hn => List.mem_append_right _ ?_)
  obtain ⟨d, hd, rfl⟩ := List.mem_map.1 hn
  exact List.mem_map.2 ⟨shB d, List.mem_map_of_mem hd, rfl⟩
theorem good_sh {b : Block} (h : b.Good) (hl : b.label < 1000) (hy : b.last.yes < 1000 ∧ b.last.no < 1000) : (shB b).Good := by
 have hlb := h.label
 have hL := h.last
 have hk : (shL b.last).kind = b.last.kind := by unfold shL; split; rfl; split <;> rfl
 have ha : (shL b.last).a = b.last.a := by unfold shL; split; rfl; split <;> rfl
 refine ⟨by show 0 ≤ b.label + 1000 ∧ b.label + 1000 < 100000; omega, h.phis, h.instrs, ⟨by rw [show (shB b).last = shL b.last from rfl, hk]; exact hL.kind, ?_, by rw [show (shB b).last = shL b.last from rfl, ha]; exact hL.a, ?_, ?_⟩⟩
 ·have c2 := hL.only
  show shL b.last = (shL b.last).only
  generalize b.last = l at *
  obtain ⟨k, a, y, n⟩ := l
  unfold shL Last.only at *
  simp only [Last.mk.injEq] at c2
  by_cases k0 : k = 0
  ·subst k0; simp at c2 ⊢; exact c2
  ·by_cases k1 : k = 1
   ·subst k1; simp
   ·simp only [if_neg k0, if_neg k1, false_or] at c2 ⊢
    simp only [Last.mk.injEq]
    exact c2
 ·have := hL.yes
  show 0 ≤ (shL b.last).yes ∧ (shL b.last).yes < 100000
  unfold shL
  split
  ·simp only; omega
  ·split
   ·simp only; omega
   ·omega
 ·have := hL.no
  show 0 ≤ (shL b.last).no ∧ (shL b.last).no < 100000
  unfold shL
  split
  ·simp only; omega
  ·split
   ·simp only; omega
   ·omega
end Go.Proofs.YtdjfndijbnpkpaaDoor.Sh
namespace Go.Proofs.YtdjfndijbnpkpaaDoor.Sh
open Go Go.AM Go.Proofs Go.AM.Lx
theorem last_facts {l : Last} {ls : List Int} (h : l.check ls = 0) : (l.kind = 0 ∨ l.kind = 1 → l.yes ∈ ls) ∧ (l.kind = 1 → l.no ∈ ls) ∧ (¬ (l.kind = 0 ∨ l.kind = 1) → l.yes = 0) ∧ (¬ l.kind = 1 → l.no = 0) := by
 unfold Last.check at h
 split at h
 ·cases h
 ·split at h
  ·cases h
  ·rename_i c2
   split at h
   ·cases h
   ·have h := lchk_all h
    have c2 : l = l.only := Decidable.not_not.1 c2
    unfold Last.labels at h
    refine ⟨fun k => ?_, fun k => ?_, fun k => ?_, fun k => ?_⟩
    ·by_cases k0 : l.kind = 0 ∨ l.kind = 1 ∧ l.yes = l.no
     ·rw [if_pos k0] at h; exact h _ (by simp)
     ·rw [if_neg k0, if_pos (by omega)] at h; exact h _ (by simp)
    ·by_cases k0 : l.kind = 0 ∨ l.kind = 1 ∧ l.yes = l.no
     ·rw [if_pos k0] at h
      have : l.no = l.yes := by omega
      rw [this]; exact h _ (by simp)
     ·rw [if_neg k0, if_pos k] at h; exact h _ (by simp)
    ·rw [c2]; unfold Last.only; simp only; rw [if_neg k]
    ·rw [c2]; unfold Last.only; simp only; rw [if_neg k]
theorem small_lab {s : Small} (hs : s.Ok) (hl : s.light = true) : ∀ b ∈ s.prog, b.label < 1000 ∧ b.last.yes < 1000 ∧ b.last.no < 1000 := by
 obtain ⟨f1, f2, f3, f4, f5, f6⟩ := small_facts hs hl
 have hla : ∀ n ∈ s.prog.map (·.label), n < 1000 := fun n hn => by
  rw [prog_labels] at hn
  obtain ⟨i, hi, rfl⟩ := List.mem_map.1 hn
  have hi := List.mem_range.1 hi
  unfold plabel
  omega
 obtain ⟨_, h2, _⟩ := check_parts (small_check hs hl)
 intro b hb
 have hlast : b.last.check (s.prog.map (·.label)) = 0 := ferr_all (h2 b hb) _ (by simp)
 obtain ⟨k1, k2, k3, k4⟩ := last_facts hlast
 refine ⟨hla _ (List.mem_map_of_mem hb), ?_, ?_⟩
 ·by_cases k : b.last.kind = 0 ∨ b.last.kind = 1
  ·exact hla _ (k1 k)
  ·rw [k3 k]; decide
 ·by_cases k : b.last.kind = 1
  ·exact hla _ (k2 k)
  ·rw [k4 k]; decide
theorem small_cons {s : Small} (hs : s.Ok) (hl : s.light = true) : ∃ b q, s.prog = b :: q ∧ b.label = 0 := by
 obtain ⟨f1, f2, f3, f4, f5, f6⟩ := small_facts hs hl
 refine ⟨s.block 0, (List.range (s.n - 1)).map fun i => s.block (i + 1), ?_, rfl⟩
 unfold Small.prog
 have : s.n = (s.n - 1) + 1 := by omega
 conv => lhs; rw [this, List.range_succ_eq_map]
 simp
theorem both_check {s t : Small} (hs : s.Ok) (hl : s.light = true) (ht : t.Ok) (htl : t.light = true) : check (s.prog ++ t.prog) = 8 := by
 obtain ⟨b, q, hb, hb0⟩ := small_cons hs hl
 obtain ⟨c, r, hc, hc0⟩ := small_cons ht htl
 have h1 := small_count hs hl
 have h2 := small_count ht htl
 have h3 := count_append s.prog t.prog
 have h4 := len_le (s.prog ++ t.prog)
 have h5 : dupGo [] (s.prog ++ t.prog) = 8 := by
  rw [dupGo_append, if_pos (small_dup hs hl), hc, dupGo, if_neg (by omega), if_pos (by rw [hb, hc0, ← hb0]; simp)]
 have h6 : 1 ≤ (s.prog ++ t.prog).length := by rw [hb]; simp; omega
 unfold check
 rw [if_neg (by omega), if_neg (by omega), if_neg (by rw [h5]; decide), h5]
structure At (st0 : St) (qb i : Nat) (css : List (List Value)) (st : St) (cs : List Value) : Prop where
 get : st.get qb = some (.cells (css.set i cs).flatten)
 keep : ∀ id, id ≠ qb → st.get id = st0.get id
 next : st.next = st0.next
 ro : st.ro = st0.ro
section
variable {st0 st : St} {qb i : Nat} {css : List (List Value)} {cs : List Value} (hu : ∀ cs ∈ css, cs.length = 7) (hi : i < css.length)
include hu hi
theorem At.ld (h : At st0 qb i css st cs) (hc : cs.length = 7) {k : Nat} {x : Value} (hk : cs[k]? = some x) : st.load1 qb (i * 7 + k) = .ok x :=
 flat_ld1 h.get (fun c hm => (List.mem_or_eq_of_mem_set hm).elim (hu c) fun e => e ▸ hc) (List.getElem?_set_self hi) hk
theorem At.sto (h : At st0 qb i css st cs) (hc : cs.length = 7) (hro : st0.ro ≤ qb) {k : Nat} {x : Value} (hk : k < 7) (hx : cellOk x = true) : ∃ st', st.storeN qb (i * 7 + k) [x] = .ok st' ∧ At st0 qb i css st' (cs.set k x) := by
 have := flat_st1 h.get (fun c hm => (List.mem_or_eq_of_mem_set hm).elim (hu c) fun e => e ▸ hc) (List.getElem?_set_self hi) hk (by rw [h.ro]; exact hro) hx
 rw [List.set_set] at this
 exact ⟨_, this, by rw [get_put, if_pos rfl], fun id hne => by rw [get_put, if_neg hne]; exact h.keep id hne, h.next, h.ro⟩
end
variable {K : Ctx} (hF : Fix pgF K)
include hF
theorem PJ_loop {J} (hJ : IsJ K (retK refinerylaw05_ParseJoins_c.results) J) {v5 v7 v8 v10 v11 : Value} {qb : Nat} {q : Prog} {Q : Value × St → Prop} (hlab : ∀ b ∈ q, (0 ≤ b.label ∧ b.label < 1000) ∧ (0 ≤ b.last.yes ∧ b.last.yes < 1000) ∧ (0 ≤ b.last.no ∧ b.last.no < 1000)) (hql : q.length ≤ 1000) :
 ∀ (d i : Nat) (css : List (List Value)) (st : St), i + d = q.length → st.get qb = some (.cells css.flatten) → css.length = q.length → (∀ cs ∈ css, cs.length = 7) → st.ro ≤ qb → (∀ j b, i ≤ j → q[j]? = some b → ∃ vp vi, css[j]? = some (cB b.label vp vi b.last)) →
 (∀ (css' : List (List Value)) (st' : St), st'.get qb = some (.cells css'.flatten) → css'.length = q.length → (∀ cs ∈ css', cs.length = 7) → (∀ j, j < i → css'[j]? = css[j]?) → (∀ j b vp vi, i ≤ j → q[j]? = some b → css[j]? = some (cB b.label vp vi b.last) → css'[j]? = some (cB (shB b).label vp vi (shB b).last)) → (∀ id, id ≠ qb → st'.get id = st.get id) → st'.next = st.next → st'.ro = st.ro →
   Ok (refinerylaw05_ParseJoins_j3 J v5 (.agg #[Sl qb 0 q.length 7]) v7 v8 v10 v11 st') Q) →
 Ok (refinerylaw05_ParseJoins_l0 J v5 (.agg #[Sl qb 0 q.length 7]) v7 v8 v10 v11 (I q.length) (I i) st) Q := by
 intro d
 induction d with
 | zero =>
   intro i css st hi hg hl hu hro hc hQ
   refine refinerylaw05_ParseJoins_l0_of hF hJ ?_
   rw [refinerylaw05_ParseJoins_l0_eq]
   have hlt : decide ((i : Int) < (q.length : Int)) = false := decide_eq_false (by omega)
   simp only [sLss, hlt, thn_ok, condX_eq, cond_false]
   exact hQ css st hg hl hu (fun _ _ => rfl) (fun j b vp vi hj hb _ => by have := (List.getElem?_eq_some_iff.1 hb).1; omega) (fun _ _ => rfl) rfl rfl
 | succ d ih =>
   intro i css st hi hg hl hu hro hc hQ
   refine refinerylaw05_ParseJoins_l0_of hF hJ ?_
   rw [refinerylaw05_ParseJoins_l0_eq]
   have hiq : i < q.length := by omega
   have hic : i < css.length := by omega
   have hb : q[i]? = some q[i] := List.getElem?_eq_getElem hiq
   obtain ⟨⟨n1, n2⟩, ⟨y1, y2⟩, o1, o2⟩ := hlab _ (List.getElem_mem hiq)
   obtain ⟨vp, vi, hcs⟩ := hc i _ (Nat.le_refl _) hb
   generalize q[i] = b at *
   have hlt : decide ((i : Int) < (q.length : Int)) = true := decide_eq_true (by omega)
   have hix : ∀ s', sIxA 7 none (Sl qb 0 q.length 7) (I i) s' = .ok (P qb (i * 7), s') := fun s' => by simp [sIxA, index, Res.need, hiq]
   have hf0 : ∀ (v : Value) s', sField none 0 (.agg #[v]) s' = .ok (v, s') := fun v s' => rfl
   have hnc : ∀ o s', sNilc (P qb o) s' = .ok (P qb o, s') := fun o s' => rfl
   have hst : ∀ o k x s', sStore 1 (P qb o) (.int k x) s' = (s'.storeN qb o [.int k x] >>= fun s => .ok (nothing, s)) := fun o k x s' => rfl
   have A0 : At st qb i css st (cB b.label vp vi b.last) := ⟨by
    have : css.set i (cB b.label vp vi b.last) = css := by
     have e := (List.getElem?_eq_some_iff.1 hcs).2
     rw [← e]; exact List.set_getElem_self hic
    rw [this]; exact hg, fun _ _ => rfl, rfl, rfl⟩
   have L0 := A0.ld hu hic rfl (k := 0) (x := I b.label) rfl
   obtain ⟨s1, S1, A1⟩ := A0.sto hu hic rfl hro (k := 0) (x := I (b.label + 1000)) (by decide) rfl
   have L0 : st.load1 qb (i * 7) = .ok (I b.label) := L0
   have S1 : st.storeN qb (i * 7) [I (b.label + 1000)] = .ok s1 := S1
   have L3 := A1.ld hu hic rfl (k := 3) (x := U b.last.kind) rfl
   have w0 : IntKind.i64.wrap (b.label + 1000) = b.label + 1000 := wrap_id (by omega)
   have wy : IntKind.i64.wrap (b.last.yes + 1000) = b.last.yes + 1000 := wrap_id (by omega)
   have wn : IntKind.i64.wrap (b.last.no + 1000) = b.last.no + 1000 := wrap_id (by omega)
   have wi : IntKind.i64.wrap ((i : Int) + 1) = ((i + 1 : Nat) : Int) := by rw [wrap_id (by omega)]; omega
   have hend : ∀ s', At st qb i css s' (cB (shB b).label vp vi (shB b).last) → Ok (refinerylaw05_ParseJoins_j4 J v5 (.agg #[Sl qb 0 q.length 7]) v7 v8 v10 v11 (I q.length) (I i) s') Q := fun s' A => by
    rw [refinerylaw05_ParseJoins_j4_eq hJ]
    simp only [sAdd, wi, thn_ok]
    refine ih (i + 1) (css.set i (cB (shB b).label vp vi (shB b).last)) s' (by omega) A.get (by rw [List.length_set]; exact hl) (fun c hm => (List.mem_or_eq_of_mem_set hm).elim (hu c) fun e => e ▸ rfl) (by rw [A.ro]; exact hro) (fun j b' hj hb' => ?_) fun css' st' g1 g2 g3 g4 g5 g6 g7 g8 => ?_
    ·rw [List.getElem?_set_ne (by omega)]
     exact hc j b' (by omega) hb'
    ·refine hQ css' st' g1 g2 g3 (fun j hj => ?_) (fun j b' vp' vi' hj hb' hcc => ?_) (fun id hne => (g6 id hne).trans (A.keep id hne)) (g7.trans A.next) (g8.trans A.ro)
     ·rw [g4 j (by omega), List.getElem?_set_ne (by omega)]
     ·by_cases hji : j = i
      ·subst hji
       rw [g4 j (by omega), List.getElem?_set_self hic]
       rw [hb] at hb'; cases hb'
       rw [hcs] at hcc
       simp only [Option.some.injEq, cB, List.cons.injEq] at hcc
       obtain ⟨_, rfl, rfl, _⟩ := hcc
       rfl
      ·exact g5 j b' vp' vi' (by omega) hb' (by rw [List.getElem?_set_ne (by omega)]; exact hcc)
   simp only [sLss, hlt, thn_ok, condX_eq, cond_true, refinerylaw05_ParseJoins_j2_eq hJ, sLref_agg, hf0, hix, sOff_eq, sLoad1, L0, Res.bind_ok, sAdd, w0, hst, S1, hnc, Nat.add_zero, L3, sEql]
   by_cases k0 : b.last.kind = 0
   ·have L5 := A1.ld hu hic rfl (k := 5) (x := I b.last.yes) rfl
    obtain ⟨s2, S2, A2⟩ := A1.sto hu hic rfl hro (k := 5) (x := I (b.last.yes + 1000)) (by decide) rfl
    have L32 := A2.ld hu hic rfl (k := 3) (x := U b.last.kind) rfl
    have L5 : s1.load1 qb (i * 7 + 3 + 2) = .ok (I b.last.yes) := L5
    have S2 : s1.storeN qb (i * 7 + 3 + 2) [I (b.last.yes + 1000)] = .ok s2 := S2
    have k01 : decide (b.last.kind = 1) = false := decide_eq_false (by omega)
    have hb1 : (true == false) = false := rfl
    simp only [decide_eq_true k0, sG_eq, hb1, cond_false, thn_ok, sPick_eq, if_true, cond_true, hnc, sOff_eq, sLoad1, L5, Res.bind_ok, sAdd, wy, hst, S2, Nat.add_zero, L32, sEql, k01, condX_eq]
    refine hend s2 ?_
    have e : (shB b).last = { b.last with yes := b.last.yes + 1000 } := by show shL b.last = _; unfold shL; rw [if_pos k0]
    rw [e]
    exact A2
   ·by_cases k1 : b.last.kind = 1
    ·have L5 := A1.ld hu hic rfl (k := 5) (x := I b.last.yes) rfl
     obtain ⟨s2, S2, A2⟩ := A1.sto hu hic rfl hro (k := 5) (x := I (b.last.yes + 1000)) (by decide) rfl
     have L32 := A2.ld hu hic rfl (k := 3) (x := U b.last.kind) rfl
     have L6 := A2.ld hu hic rfl (k := 6) (x := I b.last.no) rfl
     obtain ⟨s3, S3, A3⟩ := A2.sto hu hic rfl hro (k := 6) (x := I (b.last.no + 1000)) (by decide) rfl
     have L5 : s1.load1 qb (i * 7 + 3 + 2) = .ok (I b.last.yes) := L5
     have S2 : s1.storeN qb (i * 7 + 3 + 2) [I (b.last.yes + 1000)] = .ok s2 := S2
     have L6 : s2.load1 qb (i * 7 + 3 + 3) = .ok (I b.last.no) := L6
     have S3 : s2.storeN qb (i * 7 + 3 + 3) [I (b.last.no + 1000)] = .ok s3 := S3
     have hb1 : (false == false) = true := rfl
     simp only [decide_eq_false k0, sG_eq, hb1, cond_true, thn_ok, hnc, sOff_eq, sLoad1, L3, Res.bind_ok, sEql, decide_eq_true k1, sPick_eq, Bool.false_eq_true, if_false, L5, sAdd, wy, hst, S2, Nat.add_zero, L32, condX_eq, L6, wn, S3]
     refine hend s3 ?_
     have e : (shB b).last = { b.last with yes := b.last.yes + 1000, no := b.last.no + 1000 } := by show shL b.last = _; unfold shL; rw [if_neg k0, if_pos k1]
     rw [e]
     exact A3
    ·have hb1 : (false == false) = true := rfl
     simp only [decide_eq_false k0, sG_eq, hb1, cond_true, thn_ok, hnc, sOff_eq, sLoad1, L3, Res.bind_ok, sEql, decide_eq_false k1, sPick_eq, Bool.false_eq_true, if_false, Nat.add_zero, condX_eq, cond_false]
     refine hend s1 ?_
     have e : (shB b).last = b.last := by show shL b.last = _; unfold shL; rw [if_neg k0, if_neg k1]
     rw [e]
     exact A1
end Go.Proofs.YtdjfndijbnpkpaaDoor.Sh
namespace Go.Proofs.YtdjfndijbnpkpaaDoor.Sh
open Go Go.AM Go.Proofs Go.AM.Lx
theorem same_small {A : Nat → Prop} {st : St} {v : Value} {s : Small} (h : RSmall A st v s) : sameVal v v = true := by
 obtain ⟨vb, rfl, h⟩ := h
 rcases h with ⟨_, c, rfl⟩ | ⟨b, o, xs, rfl, _⟩ <;> simp [sameVal, sameOne, sameCell, sameCells]
theorem same_agg1 {s : Nat} {α : Type} {R : Rep α} {st : St} {v : Value} {l : List α} {ids : List Nat} (h : RepSl s R st v l ids) : sameVal (.agg #[v]) (.agg #[v]) = true := by
 rcases h with ⟨_, _, c, rfl⟩ | ⟨b, css, idss, rfl, _⟩ <;> simp [sameVal, sameOne, sameCell, sameCells]
theorem build1 {s : Nat} {α : Type} {R : Rep α} {st : St} {v : Value} {l : List α} {ids : List Nat} (h : RepSl s R st v l ids) (s' : St) : sBuild [.slice none 0 0] [(0, 1, v)] s' = .ok (.agg #[v], s') := by
 rcases h with ⟨_, _, c, rfl⟩ | ⟨b, css, idss, rfl, _⟩ <;> simp [sBuild, fillL, Res.need]
variable {K : Ctx} (hF : Fix pgF K)
include hF
theorem ParseJoins_ok {s t : Small} (hs : s.Ok) (ht : t.Ok) {v w : Value} {st : St} (hR : RSmall (Bel st.next) st v s) (hRt : RSmall (Bel st.next) st w t) (hn : s.blocks.length < 2 ^ 62) (hnt : t.blocks.length < 2 ^ 62) (hv : VOk st) : Ok (K.go (.call n_refinerylaw05_ParseJoins [v, w]) st) fun r => r.1 = B true := by
 refine refinerylaw05_ParseJoins_of hF fun J hJ => ?_
 rw [refinerylaw05_ParseJoins_eq]
 have hbx : ∀ s', sLbox v s' = .ok (v, s'.bump) := by obtain ⟨vb, rfl, _⟩ := hR; exact fun s' => rfl
 have hf3 : ∀ s', sField (some 3) 0 v s' = .ok (v, s') := by obtain ⟨vb, rfl, _⟩ := hR; exact fun s' => rfl
 have hbt : ∀ s', sLbox w s' = .ok (w, s'.bump) := by obtain ⟨vb, rfl, _⟩ := hRt; exact fun s' => rfl
 have hft : ∀ s', sField (some 3) 0 w s' = .ok (w, s') := by obtain ⟨vb, rfl, _⟩ := hRt; exact fun s' => rfl
 have hsw := same_small hRt
 have E0 : Ext st st.bump.bump := (Ext.refl st).bump.bump
 simp only [hbx, hbt, thn_ok]
 refine (Awake05_ok hF (hv.mono E0)).call fun s1 E1 => ?_
 have X1 := E0.trans E1
 have hA : ∀ {s'}, Ext st s' → ∀ id, Bel st.next id → id < s'.next := fun hE id h => Nat.lt_of_lt_of_le h hE.next
 simp only [sUn_not, Bool.not_true, thn_ok, condX_eq, cond_false, refinerylaw05_ParseJoins_j0_eq hJ, hf3]
 refine (Light_ok hF (hA X1) (hR.mono (X1.agree fun _ h => h)) hn).call fun s2 E2 => ?_
 have X2 := X1.trans E2
 cases hl : s.light with
 | false => simp
 | true =>
 have hb1 : (false == false) = true := rfl
 simp only [sUn_not, Bool.not_true, thn_ok, sG_eq, hb1, cond_true, hft]
 refine (Light_ok hF (hA X2) (hRt.mono (X2.agree fun _ h => h)) hnt).call fun s3 E3 => ?_
 have X3 := X2.trans E3
 cases htl : t.light with
 | false => simp
 | true =>
 simp only [sUn_not, Bool.not_true, thn_ok, sG_eq, hb1, cond_true, sPick_eq, Bool.false_eq_true, if_false, condX_eq, cond_false, refinerylaw05_ParseJoins_j1_eq hJ, hf3]
 refine (Program_ok hF (X3.roOk hv.ro) hs hl (hA X3) (hR.mono (X3.agree fun _ h => h))).thn fun ⟨r1, s4⟩ ⟨vp, idp, e1, p2, p3, p4, E4⟩ => ?_
 simp only at e1 p2 p4 E4
 subst e1
 have X4 := X3.trans E4
 have hneed : ∀ {b : Bool} {t : String}, b = true → Res.need b t = .ok () := fun h => by subst h; rfl
 simp only [thn_ok, hft, hneed (sStays_same hsw), Res.bind_ok]
 refine (Program_ok hF (X4.roOk hv.ro) ht htl (hA X4) (hRt.mono (X4.agree fun _ h => h))).thn fun ⟨r1, s5⟩ ⟨vq, idq, e1, q2, q3, q4, E5⟩ => ?_
 simp only at e1 q2 q4 E5
 subst e1
 have X5 := X4.trans E5
 have p2' : PProg s5 vp s.prog idp := p2.frame fun id hid => E5.get _ (p4 id hid).2
 have hgp := small_good hs hl
 have hgq := small_good ht htl
 have hcp := small_count hs hl
 have hcq := small_count ht htl
 have hkp := small_check hs hl
 have hkq := small_check ht htl
 have hlp := small_lab hs hl
 have hlq := small_lab ht htl
 have hpn := small_ne hs hl
 have hqn := small_ne ht htl
 have hboth := both_check hs hl ht htl
 have hrp := rdP_len s.prog
 have hrq := rdP_len t.prog
 generalize s.prog = p at *
 generalize t.prog = q at *
 have hup : ∀ {n : Nat} {α : Type} {R : Rep α} {s0 s' : St} {v : Value} {l : List α} {ids : List Nat}, RepSl n R s0 v l ids → sUpd 1 0 (.agg #[.slice none 0 0]) (.agg #[v]) s' = .ok (.agg #[v], s') := fun h => by simp [Res.need, RepSl.cell h]
 have hf1 : ∀ (v : Value) s', sField (some 1) 0 (.agg #[v]) s' = .ok (.agg #[v], s') := fun v s' => rfl
 have hf0 : ∀ (v : Value) s', sField none 0 (.agg #[v]) s' = .ok (v, s') := fun v s' => rfl
 simp only [thn_ok, sLnew_eq, hup p2, hup q2, hf1]
 have E7 : Ext s5 s5.bump.bump := (Ext.refl s5).bump.bump
 have X7 := X5.trans E7
 have r7 : PProg s5.bump.bump vp p idp := p2'.frame fun id hid => E7.get _ (Nat.lt_of_lt_of_le (p4 id hid).2 E5.next)
 refine TokText_ok hF (fun id hid => Nat.lt_of_lt_of_le (p4 id hid).2 (E5.trans E7).next) r7.read hgp (by omega) (X7.roOk hv.ro) fun vt n0 s8 hn0 o8 E8 => ?_
 have X8 := X7.trans E8
 have hitp := items_P hgp
 have hitq := items_P hgq
 have hip := items_len hitp
 have hiq := items_len hitq
 have tp := textG_nil_len (i := 0) hip
 have tq := textG_nil_len (i := 0) hiq
 have hnil : ∀ s', RSl (Bel st.next) s' 1 (fun cs (n : Int) => cs = [U n]) (.slice none 0 0) [] := fun s' => .inl ⟨rfl, 0, rfl⟩
 have hol : ∀ {n0 : Nat} {s' : St} {v : Value} {l : List Rd}, Own n0 s' 1 v (txs l) → RSl (Rng n0 s'.next) s' 1 (fun cs p => cs = [T p.1]) v l := fun h => rsl_toks h
 simp only [thn_ok]
 refine (Text_ok hF (fun id hid => hid.2) (hA X8) (hol o8) (hnil _) (by simp) (X8.roOk hv.ro) hip (by omega) (by simp)).call fun s9 E9 => ?_
 have X9 := X8.trans E9
 have hsq := same_agg1 q2
 simp only [thn_ok, hf1, hneed (sStays_same hsq), Res.bind_ok]
 have E59 := ((E7.trans E8).trans E9)
 have r9 : PProg s9 vq q idq := q2.frame fun id hid => E59.get _ (q4 id hid).2
 refine TokText_ok hF (fun id hid => Nat.lt_of_lt_of_le (q4 id hid).2 E59.next) r9.read hgq (by omega) (X9.roOk hv.ro) fun vt2 n2 s10 hn2 o10 E10 => ?_
 have X10 := X9.trans E10
 simp only [thn_ok]
 refine (Text_ok hF (fun id hid => hid.2) (hA X10) (hol o10) (hnil _) (by simp) (X10.roOk hv.ro) hiq (by omega) (by simp)).call fun s11 E11 => ?_
 have X11 := X10.trans E11
 have ha : ∀ s', sBin .add (T (textG [] (rdP p) 0)) (T (textG [] (rdP q) 0)) s' = .ok (T (textG [] (rdP p) 0 ++ textG [] (rdP q) 0), s') := fun s' => sAdd_T _ _ _ (by omega)
 have htx : textG [] (rdP p) 0 ++ textG [] (rdP q) 0 = textG [] (rdP (p ++ q)) 0 := by rw [rdP_app, ← textG_nil_app]
 have hgb : ∀ b ∈ p ++ q, b.Good := fun b hb => (List.mem_append.1 hb).elim (hgp b) (hgq b)
 have hlb : (textG [] (rdP (p ++ q)) 0).length = (textG [] (rdP p) 0).length + (textG [] (rdP q) 0).length := by rw [← htx, List.length_append]
 simp only [thn_ok, ha, htx]
 obtain ⟨ts, y1, y2⟩ := split_lay2 (gs := []) (items_P hgb) (by omega)
 have hcb := count_append p q
 obtain ⟨S, w1, w2⟩ := PS.progL_lay (N := 4000) (e := endT (textG [] (rdP (p ++ q)) 0).length) rfl (p ++ q) [] ts 10000 [] (fun b hb => ⟨hgb b hb, by have := count_mem hb; omega⟩) (by simp) y1 (by have := len_le (p ++ q); omega)
 have w1 : PS.prog 10000 ⟨ts ++ [endT (textG [] (rdP (p ++ q)) 0).length], 0, 0⟩ = some (p ++ q, S) := by
  have w1' : PS.progL 10000 (PS.lines ⟨ts ++ [endT (textG [] (rdP (p ++ q)) 0).length], 0, 0⟩) [] = some (p ++ q, S) := by simpa using w1
  exact w1'
 have hP := Parse_out hF (by omega) y2 (by omega) w1 (by have := (split_toksOk y2).1; omega) (hv.mono X11)
 have ho : outP (p ++ q, S).1 (p ++ q, S).2.err = [] := by unfold outP; rw [if_neg (fun h => by rw [hboth] at h; exact absurd h.2 (by decide))]
 have ho2 : outE (p ++ q, S).1 (p ++ q, S).2.err = 8 := by unfold outE; simp only; rw [if_pos w2, hboth]
 rw [ho, ho2, if_neg (fun h => h w2), if_neg (by simp only [hboth]; decide)] at hP
 refine hP.thn fun ⟨r1, s12⟩ ⟨vp8, is8, m1, m2, m3, E12⟩ => ?_
 simp only at m1 m2 m3 E12
 subst m1
 have hx1 : ∀ {a b c : Value} s', sExtract (.tuple #[a, b, c]) 0 s' = .ok (a, s') ∧ sExtract (.tuple #[a, b, c]) 1 s' = .ok (b, s') ∧ sExtract (.tuple #[a, b, c]) 2 s' = .ok (c, s') := fun s' => ⟨rfl, rfl, rfl⟩
 have E13 : Ext s12 s12.bump := (Ext.refl s12).bump
 have E513 := ((((E59.trans E10).trans E11).trans E12).trans E13)
 have X13 := X5.trans E513
 have hlq' : ∀ s', sLen .slice vq s' = .ok (I q.length, s') := RepSl.len q2
 simp only [(hx1 _).1, (hx1 _).2.1, (hx1 _).2.2, thn_ok, sLnew_eq, hup m2, sLref_agg, hf0, hlq']
 have p13 : PProg s12.bump vp p idp := p2'.frame fun id hid => E513.get _ (Nat.lt_of_lt_of_le (p4 id hid).2 E5.next)
 have q13 : PProg s12.bump vq q idq := q2.frame fun id hid => E513.get _ (q4 id hid).2
 have hip13 : ∀ id ∈ idp, st.next ≤ id ∧ id < s4.next := fun id hid => ⟨Nat.le_trans X3.next (p4 id hid).1, (p4 id hid).2⟩
 have hiq13 : ∀ id ∈ idq, s4.next ≤ id ∧ id < s12.bump.next := fun id hid => ⟨(q4 id hid).1, Nat.lt_of_lt_of_le (q4 id hid).2 E513.next⟩
 rcases q13 with ⟨h0, _⟩ | ⟨qb, css, idss, rfl, g2, g3, g4, g5, g6, rfl⟩
 ·exact absurd h0 hqn
 have hqb := hiq13 qb (List.mem_cons_self ..)
 have hX4n := X4.next
 have hqlen : q.length ≤ 400 := (check_parts hkq).2.2.2.2
 have hplen : p.length ≤ 400 := (check_parts hkp).2.2.2.2
 have hlep := len_le p
 have hleq := len_le q
 have hcsj : ∀ (j : Nat) (b : Block), q[j]? = some b → ∃ cs is vph vi i1 i2, css[j]? = some cs ∧ idss[j]? = some is ∧ cs = cB b.label vph vi b.last ∧ RepSl 3 PPhi s12.bump vph b.phis i1 ∧ RepSl 7 PInstr s12.bump vi b.instrs i2 ∧ is = i1 ++ i2 := fun j b hb => by
  have hj := (List.getElem?_eq_some_iff.1 hb).1
  have c1 : css[j]? = some css[j] := List.getElem?_eq_getElem (by omega)
  have c2 : idss[j]? = some idss[j] := List.getElem?_eq_getElem (by omega)
  obtain ⟨vph, vi, i1, i2, k1, k2, k3, k4⟩ := g6 j b _ _ hb c1 c2
  exact ⟨_, _, vph, vi, i1, i2, c1, c2, k1, k2, k3, k4⟩
 have hro13 : s12.bump.ro ≤ qb := by rw [X13.ro]; exact Nat.le_trans hv.ro (Nat.le_trans hX4n hqb.1)
 have hz : Value.int .i64 0 = I ((0 : Nat) : Int) := rfl
 rw [hz]
 refine PJ_loop hF hJ (q := q) (qb := qb) (fun b hb => ⟨⟨(hgq b hb).label.1, (hlq b hb).1⟩, ⟨(hgq b hb).last.yes.1, (hlq b hb).2.1⟩, (hgq b hb).last.no.1, (hlq b hb).2.2⟩) (by omega) q.length 0 css s12.bump (by omega) g2 g3 (fun cs hc => (g5 cs hc).1) hro13 (fun j b _ hb => by
  obtain ⟨cs, is, vph, vi, i1, i2, c1, c2, rfl, _⟩ := hcsj j b hb
  exact ⟨vph, vi, c1⟩) fun css' s14 f1 f2 f3 _ f5 f6 f7 f8 => ?_
 rw [List.nodup_cons] at q3
 have hq14 : PProg s14 (Sl qb 0 (q.map shB).length 7) (q.map shB) (qb :: idss.flatten) := by
  refine .inr ⟨qb, css', idss, rfl, f1, by rw [List.length_map]; exact f2, by rw [List.length_map]; exact g4, fun cs hc => ⟨f3 cs hc, ?_⟩, fun j b cs is hb hc hi => ?_, rfl⟩
  ·obtain ⟨j, hj⟩ := List.mem_iff_getElem?.1 hc
   have hjl := (List.getElem?_eq_some_iff.1 hj).1
   have hb : q[j]? = some q[j] := List.getElem?_eq_getElem (by omega)
   obtain ⟨cs0, is, vph, vi, i1, i2, c1, c2, rfl, k2, k3, _⟩ := hcsj j _ hb
   have := f5 j _ vph vi (Nat.zero_le _) hb c1
   rw [hj] at this; cases this
   simp [cB, RepSl.cell k2, RepSl.cell k3]
  ·rw [List.getElem?_map] at hb
   cases hq : q[j]? with
   | none => rw [hq] at hb; cases hb
   | some b0 =>
     rw [hq] at hb; cases hb
     obtain ⟨cs0, is0, vph, vi, i1, i2, c1, c2, rfl, k2, k3, rfl⟩ := hcsj j b0 hq
     have := f5 j _ vph vi (Nat.zero_le _) hq c1
     rw [hc] at this; cases this
     rw [hi] at c2; cases c2
     have hne : ∀ id ∈ i1 ++ i2, id ≠ qb := fun id hid e => q3.1 (e ▸ List.mem_flatten.2 ⟨_, List.mem_of_getElem? hi, hid⟩)
     exact ⟨vph, vi, i1, i2, rfl, k2.frame PPhi.fr fun id hid => f6 id (hne id (List.mem_append_left _ hid)), k3.frame PInstr.fr fun id hid => f6 id (hne id (List.mem_append_right _ hid)), rfl⟩
 have hqe : Sl qb 0 q.length 7 = Sl qb 0 (q.map shB).length 7 := by rw [List.length_map]
 rw [hqe]
 have X14 : Ext st s14 := ⟨by rw [f7]; exact X13.next, by rw [f8]; exact X13.ro, fun id hid => by rw [f6 id (by omega)]; exact X13.get id hid⟩
 have p14 : PProg s14 vp p idp := p13.frame fun id hid => f6 id (by have := (hip13 id hid).2; omega)
 have hgs : ∀ b ∈ q.map shB, b.Good := fun b hb => by
  obtain ⟨c, hc, rfl⟩ := List.mem_map.1 hb
  exact good_sh (hgq c hc) (hlq c hc).1 (hlq c hc).2
 have hksh := check_sh hkp hkq (fun b hb => (hlp b hb).1) (fun b hb => ⟨(hgq b hb).label.1, (hlq b hb).1⟩) (fun b hb => (hgp b hb).phis) (fun b hb => (hgq b hb).phis) (by omega) (by omega)
 have hcs := count_sh q
 have hln : (q.map shB).length = q.length := List.length_map ..
 have hqn' : q.map shB ≠ [] := fun e => hqn (List.map_eq_nil_iff.1 e)
 have hrs := rdP_len (q.map shB)
 generalize hq' : q.map shB = q' at *
 rw [refinerylaw05_ParseJoins_j3_eq hJ]
 simp only [hf1, thn_ok]
 refine TokText_ok hF (fun id hid => by rw [f7]; exact (hiq13 id hid).2) hq14.read hgs (by omega) (X14.roOk hv.ro) fun vt3 n3 s15 hn3 o15 E15 => ?_
 have X15 := X14.trans E15
 have hits := items_len (items_P hgs)
 have tsq := textG_nil_len (i := 0) hits
 simp only [thn_ok]
 refine (Text_ok hF (fun id hid => hid.2) (hA X15) (hol o15) (hnil _) (by simp) (X15.roOk hv.ro) hits (by omega) (by simp)).call fun s16 E16 => ?_
 have X16 := X15.trans E16
 have ha2 : ∀ s', sBin .add (T (textG [] (rdP p) 0)) (T (textG [] (rdP q') 0)) s' = .ok (T (textG [] (rdP p) 0 ++ textG [] (rdP q') 0), s') := fun s' => sAdd_T _ _ _ (by omega)
 have htx2 : textG [] (rdP p) 0 ++ textG [] (rdP q') 0 = textG [] (rdP (p ++ q')) 0 := by rw [rdP_app, ← textG_nil_app]
 have hlb2 : (textG [] (rdP (p ++ q')) 0).length = (textG [] (rdP p) 0).length + (textG [] (rdP q') 0).length := by rw [← htx2, List.length_append]
 have hcb2 := count_append p q'
 simp only [thn_ok, ha2, htx2]
 refine (Parse_text hF (fun b hb => (List.mem_append.1 hb).elim (hgp b) (hgs b)) hksh (by omega) (by omega) (hv.mono X16)).thn fun ⟨r1, s17⟩ ⟨vr, isr, m1', r2, r3, E17⟩ => ?_
 simp only at m1' r2 r3 E17
 subst m1'
 have E18 : Ext s17 s17.bump := (Ext.refl s17).bump
 have E1418 := (((E15.trans E16).trans E17).trans E18)
 have hi14 : ∀ id ∈ idp, id < s14.next := fun id hid => by have := (hip13 id hid).2; rw [f7]; omega
 have hj14 : ∀ id ∈ qb :: idss.flatten, id < s14.next := fun id hid => by rw [f7]; exact (hiq13 id hid).2
 have p18 : PProg s17.bump vp p idp := p14.frame fun id hid => E1418.get _ (hi14 id hid)
 have q18 : PProg s17.bump (Sl qb 0 q'.length 7) q' (qb :: idss.flatten) := hq14.frame fun id hid => E1418.get _ (hj14 id hid)
 have r18 : PProg s17.bump vr (p ++ q') isr := r2.frame fun id hid => E18.get _ (r3.at_ id hid).2
 have hnd : (idp ++ qb :: idss.flatten).Nodup := by
  rw [List.nodup_append]
  refine ⟨p3, List.nodup_cons.2 q3, fun a ha b hb e => ?_⟩
  subst e
  have := (hip13 a ha).2
  have := (hiq13 a hb).1
  omega
 obtain ⟨vz, s19, idz, z1, z2, z3, z4, z5, z6⟩ := RepSl.app (bytes := 88) PBlock.fr p18 q18 (by decide) hpn hqn' (fun id hid => (List.mem_append.1 hid).elim (fun h => Nat.lt_of_lt_of_le (hi14 id h) E1418.next) fun h => Nat.lt_of_lt_of_le (hj14 id h) E1418.next) (fun id hid => by
  rw [E1418.ro, X14.ro]; exact Nat.le_trans hv.ro (hip13 id hid).1) hnd (by omega)
 have r19 : PProg s19 vr (p ++ q') isr := r18.frame fun id hid => z4 id (Nat.lt_of_lt_of_le (r3.at_ id hid).2 E18.next) fun hm => by
  have h1 := (r3.at_ id hid).1
  have h2 := hi14 id hm
  have h3 := (E15.trans E16).next
  omega
 have hsame := Same_ok hF (A := fun id => id ∈ isr) (A' := fun id => id ∈ idz) (st := s19) (fun id hid => Nat.lt_trans (Nat.lt_of_lt_of_le (r3.at_ id hid).2 E18.next) z5) (fun id hid => z3 id hid) r19.read (PProg.read z2) (by rw [List.length_append]; omega) (fun b hb => by
  have h2 : b.phis = [] := (List.mem_append.1 hb).elim (fun h => (hgp b h).phis) fun h => (hgs b h).phis
  have := count_mem hb
  exact ⟨by rw [h2]; simp, by omega, by rw [h2]; simp⟩)
 obtain ⟨⟨rs, s20⟩, hr, e1, e2⟩ := hsame
 simp only at e1
 subst e1
 have hwl : IntKind.i64.wrap (((textG [] (rdP p) 0).length : Int) + ((textG [] (rdP q) 0).length : Int)) = ((textG [] (rdP (p ++ q)) 0).length : Int) := by rw [wrap_id (by omega), hlb]; omega
 have hbt1 : (true == true) = true := rfl
 simp only [(hx1 _).1, (hx1 _).2.1, (hx1 _).2.2, thn_ok, sLnew_eq, hup r2, sEql, decide_true, sGo_eq, hbt1, cond_true, sLen_T, sAdd, hwl, sPick_eq, if_true, sLref_agg, hf0, hf1, gd_eq, Res.bind_ok, z1, hneed (sStays_same (same_agg1 r2)), build1 z2, hr]
 exact ⟨(B true, s20), rfl, rfl⟩
theorem ParseJoins_args {st : St} (hv : VOk st) (args : List Value) (h : WVs pg st [24, 24] args) : Ok (K.go (.call n_refinerylaw05_ParseJoins args) st) fun r => r.1 = .bool true := by
 match args, h with
 | [v0, v1], ⟨h0, h1, _⟩ =>
   obtain ⟨s, hR, hs, hn⟩ := wv_Small h0
   obtain ⟨t, hRt, ht, hnt⟩ := wv_Small h1
   exact ParseJoins_ok hF hs ht hR hRt hn hnt hv
end Go.Proofs.YtdjfndijbnpkpaaDoor.Sh
