/-
  Moves in memory: Clone, DeleteFunc, Delete.
-/
import Derived.Test.YtfknooeebmdfoaaLv1
import Derived.Test.YtfknooeebmdfoaaIrClone
set_option linter.unusedVariables false
set_option linter.unusedSimpArgs false
set_option linter.unusedSectionVars false
set_option maxRecDepth 100000
namespace Go.Proofs.Ytfknooeebmdfoaa.Sh
open Go Go.AM Go.Proofs

/-- Since then nothing was turned but that block. -/
structure But (c : Nat) (st st' : St) : Prop where
  next : st.next ≤ st'.next
  ro : st'.ro = st.ro
  get : ∀ id, id < st.next → id ≠ c → st'.get id = st.get id
theorem But.refl (c : Nat) (st : St) : But c st st := ⟨Nat.le_refl _, rfl, fun _ _ _ => rfl⟩
theorem But.trans {c : Nat} {a b d : St} (h : But c a b) (k : But c b d) : But c a d :=
  ⟨Nat.le_trans h.next k.next, k.ro.trans h.ro, fun id h1 h2 => (k.get id (Nat.lt_of_lt_of_le h1 h.next) h2).trans (h.get id h1 h2)⟩
theorem But.of {c : Nat} {a b : St} (h : Ext a b) : But c a b := ⟨h.next, h.ro, fun id h1 _ => h.get id h1⟩
theorem But.put {c : Nat} {a b : St} (h : But c a b) (o : AObj) : But c a (b.put c o) := ⟨h.next, h.ro, fun id h1 h2 => by rw [get_put, if_neg h2]; exact h.get id h1 h2⟩

theorem mb_put {st : St} {c i : Nat} {ms l : List Mv} (h : MB st c ms) (hro : st.ro ≤ c) (hi : i + l.length ≤ ms.length) : st.storeN c (i * 2) (cMs l) = .ok (st.put c (.cells (cMs (ms.take i ++ l ++ ms.drop (i + l.length))))) := by
  have h' : st.get c = some (.cells (cMs ms)) := h
  have hlen : i * 2 + (cMs l).length ≤ (cMs ms).length := by rw [cMs_len, cMs_len]; omega
  have hs : splice (cMs ms) (i * 2) (cMs l) = cMs (ms.take i ++ l ++ ms.drop (i + l.length)) := by
    unfold splice
    rw [cMs_append, cMs_append, cMs_take, cMs_len, show i * 2 + l.length * 2 = (i + l.length) * 2 by omega, cMs_drop, List.append_assoc]
  rw [storeN_def, h']
  simp only [need_dec hro, need_dec hlen, cMs_ok, hs, Res.need_true, Res.bind_ok]
theorem mb_set {st : St} {c i : Nat} {ms : List Mv} (h : MB st c ms) (hro : st.ro ≤ c) (hi : i < ms.length) (m : Mv) : st.storeN c (i * 2) (cM m) = .ok (st.put c (.cells (cMs (ms.set i m)))) := by
  have := mb_put (l := [m]) h hro (show i + 1 ≤ _ from hi)
  rw [show cMs [m] = cM m by simp [cMs]] at this
  rw [this, List.set_eq_take_append_cons_drop, if_pos hi]
  simp
theorem mb_src {st : St} {c i : Nat} {ms : List Mv} (h : MB st c ms) (hro : st.ro ≤ c) {m : Mv} (hi : ms[i]? = some m) (x : Int) : st.storeN c (i * 2 + 1) [I x] = .ok (st.put c (.cells (cMs (ms.set i ⟨m.to, x⟩)))) := by
  have h' : st.get c = some (.cells (cMs ms)) := h
  have hil := (List.getElem?_eq_some_iff.1 hi).1
  have hlen : i * 2 + 1 + [I x].length ≤ (cMs ms).length := by rw [cMs_len, List.length_singleton]; omega
  have hs : splice (cMs ms) (i * 2 + 1) [I x] = cMs (ms.set i ⟨m.to, x⟩) := by
    have e : cMs ms = cMs (ms.take i) ++ (cM m ++ cMs (ms.drop (i + 1))) := by
      rw [← cMs_cons, ← cMs_append]
      congr 1
      have := List.drop_eq_getElem_cons hil
      rw [(List.getElem?_eq_some_iff.1 hi).2] at this
      rw [← this, List.take_append_drop]
    have ht : (cMs (ms.take i)).length = i * 2 := by rw [cMs_len, List.length_take, Nat.min_eq_left (by omega)]
    rw [List.set_eq_take_append_cons_drop, if_pos hil, cMs_append, cMs_cons, e]
    unfold splice
    rw [← ht, List.take_length_add_append, Nat.add_assoc, List.drop_length_add_append]
    simp [cM]
  rw [storeN_def, h']
  simp only [need_dec hro, need_dec hlen, hs, Res.bind_ok]
  rfl
theorem zerosM (k : Nat) : zerosL [I 0, I 0] k = cMs (List.replicate k ⟨0, 0⟩) := by
  induction k with
  | zero => rfl
  | succ k ih => rw [zerosL, ih, List.replicate_succ, cMs_cons]; rfl
theorem mb_load {st : St} {c i : Nat} {ms : List Mv} {m : Mv} (h : MB st c ms) (hi : ms[i]? = some m) : st.loadN c (i * 2) 2 = .ok (cM m) := by
  have h' : st.get c = some (.cells (cMs ms)) := h
  have hil := (List.getElem?_eq_some_iff.1 hi).1
  rw [loadN_def, h']
  simp only [need_dec (show i * 2 + 2 ≤ (cMs ms).length by rw [cMs_len]; omega), Res.bind_ok, cMs_at hi]
theorem mb_ix {c n i : Nat} (hi : i < n) (st : St) : sIxA 2 none (Sl c 0 n 2) (I i) st = .ok (P c (i * 2), st) := by
  simp [sIxA, index, Res.need, hi]
theorem mb_load0 {st : St} {c i : Nat} {ms : List Mv} {m : Mv} (h : MB st c ms) (hi : ms[i]? = some m) : st.load1 c (i * 2) = .ok (I m.to) ∧ st.load1 c (i * 2 + 1) = .ok (I m.src) := by
  have h' : st.get c = some (.cells (cMs ms)) := h
  have e := cMs_at hi
  have h0 : (cMs ms)[i * 2]? = some (I m.to) := by
    have := congrArg (fun l => l[0]?) e
    simpa [List.getElem?_take, List.getElem?_drop, cM] using this
  have h1 : (cMs ms)[i * 2 + 1]? = some (I m.src) := by
    have := congrArg (fun l => l[1]?) e
    simpa [List.getElem?_take, List.getElem?_drop, cM] using this
  exact ⟨load1_eq h' h0, load1_eq h' h1⟩

theorem sl_most {c n : Nat} {ms : List Mv} (hn : n ≤ ms.length) : ((cMs ms).length - 0) / 2 = ms.length := by rw [cMs_len]; omega

/-- Parts of such a slice. -/
theorem mb_slice {st : St} {c n lo hi : Nat} {ms : List Mv} (h : MB st c ms) (hn : n ≤ ms.length) (hlo : lo ≤ hi) (hhi : hi ≤ ms.length) : sSlice (.slice 2) (Sl c 0 n 2) (some (I lo)) (some (I hi)) none st = .ok (Sl c (lo * 2) (hi - lo) 2, st) := by
  have h' : st.get c = some (.cells (cMs ms)) := h
  have e : (cMs ms).length / 2 = ms.length := by rw [cMs_len]; omega
  have e2 : ((hi : Int).toNat) = hi := rfl
  simp [sSlice, aslice, cells_eq h', Res.need, e, boundO, bound, hn, hlo, hhi]
theorem mb_slice_to {st : St} {c n hi : Nat} {ms : List Mv} (h : MB st c ms) (hn : n ≤ ms.length) (hhi : hi ≤ ms.length) : sSlice (.slice 2) (Sl c 0 n 2) none (some (I hi)) none st = .ok (Sl c 0 hi 2, st) := by
  have h' : st.get c = some (.cells (cMs ms)) := h
  have e : (cMs ms).length / 2 = ms.length := by rw [cMs_len]; omega
  simp [sSlice, aslice, cells_eq h', Res.need, e, boundO, bound, hn, hhi]
theorem mb_slice_from {st : St} {c n lo : Nat} {ms : List Mv} (h : MB st c ms) (hn : n ≤ ms.length) (hlo : lo ≤ n) : sSlice (.slice 2) (Sl c 0 n 2) (some (I lo)) none none st = .ok (Sl c (lo * 2) (n - lo) 2, st) := by
  have h' : st.get c = some (.cells (cMs ms)) := h
  have e : (cMs ms).length / 2 = ms.length := by rw [cMs_len]; omega
  simp [sSlice, aslice, cells_eq h', Res.need, e, boundO, bound, hn, hlo]
theorem mb_slice_max {st : St} {c n lo hi : Nat} {ms : List Mv} (h : MB st c ms) (hn : n ≤ ms.length) (hlo : lo ≤ hi) (hhi : hi ≤ n) : sSlice (.slice 2) (Sl c 0 n 2) (some (I lo)) (some (I hi)) (some (I n)) st = .ok (nothing, st) := by
  have h' : st.get c = some (.cells (cMs ms)) := h
  have e : (cMs ms).length / 2 = ms.length := by rw [cMs_len]; omega
  simp [sSlice, aslice, cells_eq h', Res.need, e, boundO, bound, hn, hlo, hhi]
theorem mb_clear {st : St} {c k n : Nat} {ms : List Mv} (h : MB st c ms) (hro : st.ro ≤ c) (hn : k + n ≤ ms.length) : ∃ st', sClear [I 0, I 0] (Sl c (k * 2) n 2) st = .ok (nothing, st') ∧ MB st' c (ms.take k ++ List.replicate n ⟨0, 0⟩ ++ ms.drop (k + n)) ∧ But c st st' := by
  by_cases h0 : n = 0
  · subst h0
    exact ⟨st, by simp [sClear, aclear], by simpa using h, .refl _ _⟩
  · have := mb_put (l := List.replicate n ⟨0, 0⟩) h hro (i := k) (by simpa using hn)
    rw [← zerosM] at this
    refine ⟨_, by simp only [sClear, aclear, if_neg h0, need_dec (show 2 = [I 0, I 0].length from rfl), Res.bind_ok, this]; rfl, ?_, (But.refl _ _).put _⟩
    rw [List.length_replicate]
    simp [MB]

section
variable {K : Ctx} (hF : Fix pgF K)
include hF

/-- What a list of moves in a block of its own is: none; or from its beginning on. -/
def ML (st : St) (c : Nat) (v : Value) (l : List Mv) : Prop := (l = [] ∧ ∃ k, v = .slice none 0 k) ∨ (v = Sl c 0 l.length 2 ∧ ∃ z, MB st c (l ++ z))

omit hF in
theorem ML.rsl {A : Nat → Prop} {st : St} {c : Nat} {v : Value} {l : List Mv} (h : ML st c v l) (hA : A c) : RSl A st 2 RMove v l := by
  rcases h with ⟨rfl, k, rfl⟩ | ⟨rfl, z, hz⟩
  · exact .nil _ _ _ _ _
  · have := mb_rsl (k := 0) (n := l.length) hz hA (by simp)
    simpa using this
omit hF in
theorem ML.keep {st st' : St} {c : Nat} {v : Value} {l : List Mv} (h : ML st c v l) (hE : st'.get c = st.get c) : ML st' c v l := by
  rcases h with h | ⟨rfl, z, hz⟩
  · exact .inl h
  · exact .inr ⟨rfl, z, hE.trans hz⟩
omit hF in
theorem ML.cell {st : St} {c : Nat} {v : Value} {l : List Mv} (h : ML st c v l) : cellOk v = true := by
  rcases h with ⟨rfl, k, rfl⟩ | ⟨rfl, z, hz⟩ <;> rfl
omit hF in
theorem ML.shape {st : St} {c : Nat} {v : Value} {l : List Mv} (h : ML st c v l) : ∃ a n k, v = .slice a n k := by
  rcases h with ⟨rfl, k, rfl⟩ | ⟨rfl, z, hz⟩ <;> exact ⟨_, _, _, rfl⟩

theorem MClone_ok {A : Nat → Prop} {st : St} {v : Value} {l : List Mv} (hA : ∀ id, A id → id < st.next) (h : RSl A st 2 RMove v l) (hl : l.length < 2 ^ 40) (hro : st.ro ≤ st.next) :
    Ok (K.go (.call n_slices_Clone_leaveMove [v]) st) fun r => ∃ c, st.next ≤ c ∧ c ≤ r.2.next ∧ ((l = [] ∧ ∃ k, r.1 = .slice none 0 k) ∨ (c < r.2.next ∧ r.1 = Sl c 0 l.length 2 ∧ MB r.2 c l)) ∧ Ext st r.2 := by
  refine slices_Clone_leaveMove_of hF fun J hJ => ?_
  rw [slices_Clone_leaveMove_eq]
  obtain ⟨v', st', id, e1, e2, e3, e4, e5⟩ := clone_cells (bytes := 16) (f := cM) h hA (fun x => ⟨rfl, rfl⟩) (by decide) (by omega) hro
  have hlit : sLit 2 0 [] [] st = .ok (Sl st.next 0 0 2, st.alloc (.cells [])) := rfl
  rcases h with ⟨rfl, c, rfl⟩ | ⟨b, o, xs, rfl, h2, h3, h4, h5⟩
  · have : sEq false (.nilOf .slice) (.slice none 0 c) (.slice none 0 0) st = .ok (.bool true, st) := rfl
    simp [this]
    exact ⟨st.next, Nat.le_refl _, Nat.le_refl _⟩
  · have : sEq false (.nilOf .slice) (Sl b o l.length 2) (.slice none 0 0) st = .ok (.bool false, st) := rfl
    simp [this, slices_Clone_leaveMove_j0_eq hJ, hlit, e1]
    refine ⟨id, e3, by omega, ?_, e5⟩
    rcases e2 with ⟨rfl, k, _, rfl⟩ | ⟨b', css, idss, rfl, g2, g3, g4, g5, g6, g7⟩
    · cases k
    · have hb : id = b' := by simpa using congrArg List.head? g7
      subst hb
      refine .inr ⟨e4, rfl, ?_⟩
      have : css = l.map cM := by
        refine List.ext_getElem (by simp [g3]) fun i h1 h2 => ?_
        have := g6 i l[i] css[i] (idss[i]'(by omega)) (List.getElem?_eq_getElem _) (List.getElem?_eq_getElem _) (List.getElem?_eq_getElem _)
        rw [this.1]; simp
      rw [this] at g2
      exact g2
end
end Go.Proofs.Ytfknooeebmdfoaa.Sh

