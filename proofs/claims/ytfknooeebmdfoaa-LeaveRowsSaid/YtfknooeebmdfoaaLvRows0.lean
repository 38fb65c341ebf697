/-
  LeaveRows: the moves, and the map; the rounds that are counted.
-/
import Derived.Test.YtfknooeebmdfoaaLv9
import Derived.Test.YtfknooeebmdfoaaShL3
set_option linter.unusedVariables false
set_option linter.unusedSimpArgs false
set_option linter.unusedSectionVars false
set_option maxRecDepth 100000
namespace Go.Proofs.Ytfknooeebmdfoaa.Sh
open Go Go.AM Go.Proofs

def mvs (l : List Int) : List Mv := l.zipIdx.map fun (p : Int × Nat) => ⟨(p.2 : Int), p.1 % 14⟩
theorem mvs_len (l : List Int) : (mvs l).length = l.length := by simp [mvs]
theorem mvs_at {l : List Int} {i : Nat} (h : i < l.length) : (mvs l)[i]? = some ⟨(i : Int), l[i] % 14⟩ := by simp [mvs, h]
theorem mvs_take {l : List Int} {i : Nat} (h : i < l.length) : mvs (l.take (i + 1)) = mvs (l.take i) ++ [⟨(i : Int), l[i] % 14⟩] := by
  have : l.take (i + 1) = l.take i ++ [l[i]] := by rw [List.take_add_one, List.getElem?_eq_getElem h]; rfl
  rw [this]
  unfold mvs
  rw [List.zipIdx_append, List.map_append, List.length_take, Nat.min_eq_left (Nat.le_of_lt h), Nat.zero_add]
  rfl
theorem tos_mvs (l : List Int) : tos (mvs l) = (List.range l.length).map fun (i : Nat) => (i : Int) := by
  refine List.ext_getElem? fun i => ?_
  simp only [tos, List.getElem?_map]
  by_cases h : i < l.length
  · rw [mvs_at h]; simp [h]
  · rw [List.getElem?_eq_none (by rw [mvs_len]; omega), List.getElem?_eq_none (by simp; omega)]; rfl
theorem mem_tos_mvs {l : List Int} {x : Int} : x ∈ tos (mvs l) ↔ 0 ≤ x ∧ x < l.length := by
  rw [tos_mvs]
  constructor
  · intro h
    obtain ⟨i, hi, rfl⟩ := List.mem_map.1 h
    have := List.mem_range.1 hi
    omega
  · intro ⟨h1, h2⟩
    exact List.mem_map.2 ⟨x.toNat, List.mem_range.2 (by omega), by omega⟩
theorem nodup_mvs (l : List Int) : (tos (mvs l)).Nodup := by
  rw [tos_mvs]
  unfold List.Nodup
  rw [List.pairwise_map]
  exact (List.pairwise_lt_range (n := l.length)).imp fun h => by omega
theorem src_mvs {l : List Int} {m : Mv} (h : m ∈ mvs l) : 0 ≤ m.src ∧ m.src < 14 := by
  obtain ⟨p, _, rfl⟩ := List.mem_map.1 h
  simp only; omega
theorem gr_mvs {l : List Int} {x y : Int} (h : gr (mvs l) x = some y) : (0 ≤ x ∧ x < l.length) ∧ 0 ≤ y ∧ y < 14 := by
  obtain ⟨m, hm, rfl, rfl⟩ := gr_some h
  exact ⟨mem_tos_mvs.1 (List.mem_map.2 ⟨m, hm, rfl⟩), src_mvs hm⟩

/-- The map from registers to what they become. -/
def mTo (l : List Mv) : AObj := .map (l.map fun m => (I m.to, I m.src))
theorem findK_to (k : Int) : ∀ (l : List Mv) (i : Nat), (findK (.cell .int) (I k) (l.map fun m => (I m.to, I m.src)) i >>= fun r => Res.ok (r.map (·.2))) = .ok ((gr l k).map I) := by
  intro l
  induction l with
  | nil => intro i; rfl
  | cons m l ih =>
    intro i
    by_cases h : k = m.to
    · subst h; simp [findK, keyEq, cellEq, gr]
    · have hb : (k == m.to) = false := by simp [h]
      have h' : ¬ m.to = k := fun e => h e.symm
      have hg : gr (m :: l) k = gr l k := by simp [gr, List.find?_cons, h']
      simp only [List.map_cons, findK, keyEq, cellEq, hb, if_true]
      rw [hg]; exact ih (i + 1)
theorem sLook_to {r : Nat} {l : List Mv} {st : St} (h : st.get r = some (mTo l)) (k : Int) : sLook (.cell .int) (I 0) true (.map (some r)) (I k) st = .ok (match gr l k with | some y => .tuple #[I y, B true] | none => .tuple #[I 0, B false], st) := by
  unfold mTo at h
  have := findK_to k l 0
  cases hf : findK (.cell .int) (I k) (l.map fun m => (I m.to, I m.src)) 0 with
  | err e => rw [hf] at this; cases this
  | ok r =>
    rw [hf] at this
    simp only [Res.bind_ok, Res.ok.injEq] at this
    simp [sLook, alook, keyOk, cellIs, Res.need, mapOf, St.map, h, hf]
    cases hg : gr l k with
    | none =>
      rw [hg] at this
      cases r with
      | none => rfl
      | some q => simp at this
    | some y =>
      rw [hg] at this
      cases r with
      | none => simp at this
      | some q =>
        obtain ⟨a, b⟩ := q
        simp at this
        subst this
        rfl
theorem findK_new {k : Int} {l : List Mv} (h : k ∉ tos l) : ∀ i, findK (.cell .int) (I k) (l.map fun m => (I m.to, I m.src)) i = .ok none := by
  induction l with
  | nil => intro i; rfl
  | cons m l ih =>
    intro i
    have h1 : (k == m.to) = false := by
      have : k ≠ m.to := fun e => h (e ▸ List.mem_cons_self ..)
      simp [this]
    simp only [List.map_cons, findK, keyEq, cellEq, h1, if_true]
    exact ih (fun hm => h (List.mem_cons_of_mem _ hm)) (i + 1)
theorem sMapSet_to {r : Nat} {l : List Mv} {st : St} (h : st.get r = some (mTo l)) {k : Int} (hk : k ∉ tos l) (x : Int) (hro : st.ro ≤ r) : sMapSet (.cell .int) (.map (some r)) (I k) (I x) st = .ok (nothing, st.put r (mTo (l ++ [⟨k, x⟩]))) := by
  have h' := h
  unfold mTo at h'
  simp [sMapSet, amapSet, St.map, h', keyOk, cellIs, Res.need, hro, findK_new hk, mTo]
theorem sMapSet_add {r : Nat} {ls : List Int} {st : St} (h : st.get r = some (mSet ls)) (k : Int) (hro : st.ro ≤ r) : sMapSet (.cell .int) (.map (some r)) (I k) (.bool true) st = .ok (nothing, st.put r (mSet (addS ls k))) := by
  by_cases hk : k ∈ ls
  · have h' := h
    unfold mSet at h'
    have hs : (ls.map fun l => (I l, B true)).set (ls.idxOf k) (I k, B true) = ls.map fun l => (I l, B true) := by
      refine List.ext_getElem? fun i => ?_
      by_cases hi : ls.idxOf k = i
      · subst hi
        have hl := List.idxOf_lt_length_of_mem hk
        rw [List.getElem?_set_self (by simpa using hl), List.getElem?_map, List.getElem?_eq_getElem hl, List.getElem_idxOf hl]
        rfl
      · rw [List.getElem?_set_ne hi]
    simp [sMapSet, amapSet, St.map, h', keyOk, cellIs, Res.need, hro, findK_set, hk, mSet, addS, hs]
  · rw [sMapSet_new h hk hro, addS, if_neg hk]

def PMv : Rep Mv := fun _ cs m is => cs = cM m ∧ is = []
theorem PMv.fr : Framed PMv := ⟨fun h _ => h⟩

/-- What there is while the moves are laid down. -/
structure LI (st0 st : St) (mt : Nat) (v : Value) (l : List Mv) (ids : List Nat) : Prop where
  ext : Ext st0 st
  k1 : st0.next ≤ mt
  k2 : mt < st.next
  g : st.get mt = some (mTo l)
  mv : RepSl 2 PMv st v l ids
  nd : ids.Nodup
  lo : ∀ id ∈ ids, mt < id ∧ id < st.next

theorem LI.push {st0 st : St} {mt : Nat} {v : Value} {l : List Mv} {ids : List Nat} (h : LI st0 st mt v l ids) (hro : st0.ro ≤ st0.next) {m : Mv} (hm : m.to ∉ tos l) (hl : l.length < 1000) :
    ∃ v' st' st'' ids', sAppend 2 16 v (Sl st.bump.next 0 1 2) (st.bump.alloc (.cells (cM m))) = .ok (v', st') ∧ sMapSet (.cell .int) (.map (some mt)) (I m.to) (I m.src) st' = .ok (nothing, st'') ∧ LI st0 st'' mt v' (l ++ [m]) ids' := by
  have k1 := h.k1; have k2 := h.k2; have hn := h.ext.next
  obtain ⟨v', st', ids', r, p1, p2, p3, p4, p5, p6⟩ := RepSl.push (st := st.bump) (bytes := 16) PMv.fr (h.mv.frame PMv.fr fun id hi => by have := (h.lo id hi).2; rw [get_bump, if_neg (by omega)]) (by omega) (x := m) (cs := cM m) (is := []) ⟨rfl, rfl⟩ rfl rfl (fun id hi => by have := (h.lo id (by simpa using hi)).2; rw [next_bump]; omega) (fun id hi => by
    have := (h.lo id hi).1; rw [ro_bump, h.ext.ro]; omega) (by simpa using h.nd) (by omega)
  rw [next_bump] at p5
  rw [ro_bump] at p6
  have hkeep : ∀ id, id < st.next → id ∉ ids → st'.get id = st.get id := fun id hi hn => by
    rw [p4 id (Nat.lt_succ_of_lt hi) hn, get_bump, if_neg (by omega)]
  have hmn : mt ∉ ids := fun hm => by have := (h.lo mt hm).1; omega
  have hg : st'.get mt = some (mTo l) := by rw [hkeep mt k2 hmn]; exact h.g
  have hids : ∀ id ∈ ids', mt < id ∧ id < st'.next := fun id hi => by
    rcases p3 id hi with q | q | q
    · have := h.lo id q; omega
    · cases q
    · have q1 := q.1
      rw [next_bump] at q1
      omega
  refine ⟨v', st', _, ids', r, sMapSet_to hg hm m.src (by rw [p6, h.ext.ro]; omega), ⟨⟨by show st0.next ≤ st'.next; omega, by show st'.ro = st0.ro; rw [p6, h.ext.ro], fun id hi => ?_⟩, k1, by show mt < st'.next; omega, by rw [get_put, if_pos rfl], p1.frame PMv.fr fun id hi => by have := (hids id hi).1; rw [get_put, if_neg (by omega)], p2, hids⟩⟩
  rw [get_put, if_neg (by omega), hkeep id (by omega) (fun hm => by have := (h.lo id hm).1; omega)]
  exact h.ext.get id hi

def RU8 (cs : List Value) (x : Int) : Prop := cs = [U x]

variable {K : Ctx} (hF : Fix pgF K)
include hF
variable {J : JT (Value × St)} (hJ : IsJ K (retK refinerylaw22_LeaveRows_c.results) J) {Q : Value × St → Prop}
include hJ

theorem Rows_l0 {A : Nat → Prop} {st0 : St} {mt : Nat} {v0 v1 : Value} {l : List Int} (hro : st0.ro ≤ st0.next) (hA : ∀ id, A id → id < st0.next) (h0 : RSl A st0 1 RU8 v0 l) (hb : ∀ x ∈ l, 0 ≤ x ∧ x ≤ 255) (hl : l.length ≤ 12)
    (hfin : ∀ st v ids, LI st0 st mt v (mvs l) ids → Ok (refinerylaw22_LeaveRows_j3 J v0 v1 v (.map (some mt)) (I ((mvs l).filter keep).length) st) Q) (d : Nat) : ∀ (i : Nat) (st : St) (v : Value) (ids : List Nat), i + d = l.length → LI st0 st mt v (mvs (l.take i)) ids →
    Ok (refinerylaw22_LeaveRows_l0 J v0 v1 v (.map (some mt)) (I ((mvs (l.take i)).filter keep).length) v0 (I l.length) (I i) st) Q := by
  induction d with
  | zero =>
    intro i st v ids hi h
    refine refinerylaw22_LeaveRows_l0_of hF hJ ?_
    rw [refinerylaw22_LeaveRows_l0_eq]
    have : i = l.length := by omega
    subst this
    rw [List.take_length] at h ⊢
    simp
    exact hfin st v ids h
  | succ d ih =>
    intro i st v ids hi h
    refine refinerylaw22_LeaveRows_l0_of hF hJ ?_
    rw [refinerylaw22_LeaveRows_l0_eq]
    have hlt : i < l.length := by omega
    have hlt' : (i : Int) < l.length := by omega
    obtain ⟨b, o, hix, hld, _⟩ := RSl.at1 (f := U) h0 (List.getElem?_eq_getElem hlt)
    have hx := hb _ (List.getElem_mem hlt)
    have w1 : IntKind.i64.wrap l[i] = l[i] := wrap_id (by omega)
    have tm : (l[i]).tmod 14 = l[i] % 14 := Int.tmod_eq_emod_of_nonneg hx.1
    have w2 : IntKind.i64.wrap ((i : Int) + 1) = (i : Int) + 1 := wrap_id (by omega)
    have hto : (i : Int) ∉ tos (mvs (l.take i)) := fun hm => by
      have := (mem_tos_mvs.1 hm).2
      rw [List.length_take] at this
      omega
    have hml : (mvs (l.take i)).length < 1000 := by rw [mvs_len, List.length_take]; omega
    obtain ⟨v', st', st'', ids', e1, e2, h2⟩ := h.push hro (m := ⟨(i : Int), l[i] % 14⟩) hto hml
    rw [next_bump] at e1
    rw [← mvs_take hlt] at h2
    have hfl : ((mvs (l.take i)).filter keep).length ≤ 12 := by
      have := List.length_filter_le keep (mvs (l.take i))
      rw [mvs_len, List.length_take] at this; omega
    have b1 : ∀ s, sBuild [I 0, I 0] [(0, 1, I i), (1, 1, I (l[i] % 14))] s = .ok (vM ⟨(i : Int), l[i] % 14⟩, s) := fun s => rfl
    have hup : ∀ m s, sUpd 2 0 (.agg #[I 0, I 0]) (vM m) s = .ok (vM m, s) := fun m s => by simp [vM, Res.need]
    have hfi : ∀ m s, sField (some 2) 0 (vM m) s = .ok (vM m, s) := fun m s => rfl
    have hf0 : ∀ m s, sField none 0 (vM m) s = .ok (I m.to, s) := fun m s => rfl
    have hf1 : ∀ m s, sField none 1 (vM m) s = .ok (I m.src, s) := fun m s => rfl
    have hlr : ∀ m s, sLref (vM m) s = .ok (nothing, s) := fun m s => rfl
    have hli : ∀ m s, sLit 2 1 [I 0, I 0] [(0, 2, vM m)] s = .ok (Sl s.next 0 1 2, s.alloc (.cells (cM m))) := fun m s => rfl
    have hnext := ih (i + 1) st'' v' ids' (by omega) h2
    have hcnt : ((mvs (l.take (i + 1))).filter keep).length = ((mvs (l.take i)).filter keep).length + if (i : Int) = l[i] % 14 then 0 else 1 := by
      rw [mvs_take hlt, List.filter_append, List.length_append]
      congr 1
      rw [List.filter_cons]
      unfold keep
      by_cases he : (i : Int) = l[i] % 14
      · rw [if_pos he, decide_eq_true he]; rfl
      · rw [if_neg he, decide_eq_false he]; rfl
    rw [hcnt] at hnext
    by_cases he : (i : Int) = l[i] % 14
    · rw [if_pos he] at hnext
      simp [hlt', refinerylaw22_LeaveRows_j2_eq hJ, refinerylaw22_LeaveRows_j4_eq hJ, hix, hld _ (h.ext.agree hA), w1, tm, b1, hup, hfi, hli, e1, hlr, hf0, hf1, e2, decide_eq_true he, w2]
      simpa using hnext
    · rw [if_neg he] at hnext
      have w3 : IntKind.i64.wrap ((((mvs (l.take i)).filter keep).length : Int) + 1) = (((mvs (l.take i)).filter keep).length : Int) + 1 := wrap_id (by omega)
      simp [hlt', refinerylaw22_LeaveRows_j2_eq hJ, refinerylaw22_LeaveRows_j4_eq hJ, hix, hld _ (h.ext.agree hA), w1, tm, b1, hup, hfi, hli, e1, hlr, hf0, hf1, e2, decide_eq_false he, w2, w3]
      simpa using hnext
end Go.Proofs.Ytfknooeebmdfoaa.Sh

