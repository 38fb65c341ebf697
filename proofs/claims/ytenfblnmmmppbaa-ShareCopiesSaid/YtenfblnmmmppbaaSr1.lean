/-
  Share: maps of what was reckoned; which register stands for one; what an instruction reckons.
-/
import Derived.Test.YtenfblnmmmppbaaGr3
import Derived.Test.YtenfblnmmmppbaaMaps
import Derived.Test.YtenfblnmmmppbaaIrInstrs0
import Derived.Test.YtenfblnmmmppbaaShS
set_option linter.unusedVariables false
set_option linter.unusedSimpArgs false
set_option linter.unusedSectionVars false
set_option maxRecDepth 100000
namespace Go.Proofs.Ytenfblnmmmppbaa.Sh
open Go Go.AM Go.Proofs

/-- What an instruction reckons. -/
structure Key where
  kind : Int
  op : Int
  a : Int
  b : Int
  n : Int
deriving DecidableEq
def vK (k : Key) : Value := .agg #[U k.kind, U k.op, I k.a, I k.b, I k.n]
def k5 : KeyK := .struct [(0, .int), (1, .int), (2, .int), (3, .int), (4, .int)]
def mKeys (l : List (Key × Int)) : AObj := .map (l.map fun p => (vK p.1, I p.2))
def kget (l : List (Key × Int)) (k : Key) : Option Int := match l with | [] => none | p :: l => if k = p.1 then some p.2 else kget l k

theorem keyEq_K (k u : Key) : keyEq k5 (vK k) (vK u) = some (decide (k = u)) := by
  obtain ⟨a, b, c, d, e⟩ := k
  obtain ⟨a', b', c', d', e'⟩ := u
  simp only [Key.mk.injEq]
  by_cases h1 : a = a' <;> by_cases h2 : b = b' <;> by_cases h3 : c = c' <;> by_cases h4 : d = d' <;> by_cases h5 : e = e' <;> simp [keyEq, k5, vK, fieldsEq, cellEq, h1, h2, h3, h4, h5]
theorem findK_keys (k : Key) : ∀ (l : List (Key × Int)) (i : Nat), ∃ r, findK k5 (vK k) (l.map fun p => (vK p.1, I p.2)) i = .ok r ∧ r.map (·.2) = (kget l k).map I := by
  intro l
  induction l with
  | nil => intro i; exact ⟨none, rfl, rfl⟩
  | cons p l ih =>
    intro i
    have hk := keyEq_K k p.1
    by_cases h : k = p.1
    · rw [decide_eq_true h] at hk
      exact ⟨some (i, I p.2), by simp [findK, hk], by simp [kget, h]⟩
    · rw [decide_eq_false h] at hk
      obtain ⟨r, h1, h2⟩ := ih (i + 1)
      exact ⟨r, by simp only [List.map_cons, findK, hk]; exact h1, by rw [h2]; simp [kget, h]⟩
theorem sLook_keys {r : Nat} {l : List (Key × Int)} {st : St} (h : st.get r = some (mKeys l)) (k : Key) : sLook k5 (I 0) true (.map (some r)) (vK k) st = .ok (match kget l k with | some v => .tuple #[I v, .bool true] | none => .tuple #[I 0, .bool false], st) := by
  unfold mKeys at h
  obtain ⟨r, h1, h2⟩ := findK_keys k l 0
  have hk : keyOk k5 (vK k) = true := rfl
  simp [sLook, alook, hk, Res.need, mapOf, St.map, h, h1]
  cases hg : kget l k with
  | none =>
    rw [hg] at h2
    cases r with
    | none => rfl
    | some q => simp at h2
  | some y =>
    rw [hg] at h2
    cases r with
    | none => simp at h2
    | some q =>
      obtain ⟨a, b⟩ := q
      simp at h2
      subst h2
      rfl
theorem sMapSet_keys {r : Nat} {l : List (Key × Int)} {st : St} (h : st.get r = some (mKeys l)) (k : Key) (v : Int) (hro : st.ro ≤ r) (hn : kget l k = none) : sMapSet k5 (.map (some r)) (vK k) (I v) st = .ok (nothing, st.put r (mKeys (l ++ [(k, v)]))) := by
  unfold mKeys at h ⊢
  obtain ⟨w, h1, h2⟩ := findK_keys k l 0
  have hk : keyOk k5 (vK k) = true := rfl
  rw [hn] at h2
  cases w with
  | some q => simp at h2
  | none => simp [sMapSet, amapSet, St.map, h, hk, Res.need, hro, h1]

/-- The register that stands for one. -/
inductive OfTo (l : List (Int × Int)) : Int → Int → Prop
  | stop {r} (h : pget l r = none) : OfTo l r r
  | step {r q t} (h : pget l r = some q) (k : OfTo l q t) : OfTo l r t
def ofm (l : List (Int × Int)) (r : Int) : Int := (pget l r).getD r
def Flat (l : List (Int × Int)) : Prop := ∀ r q, pget l r = some q → pget l q = none
theorem Flat.of {l : List (Int × Int)} (h : Flat l) (r : Int) : OfTo l r (ofm l r) := by
  unfold ofm
  cases hr : pget l r with
  | none => exact .stop hr
  | some q => exact .step hr (.stop (h r q hr))

/-- Operations whose sides may be turned. -/
def turns (op : Int) : Bool := decide (op = 0) || decide (op = 2) || decide (op = 5) || decide (op = 6) || decide (op = 7) || decide (op = 10)
def keyOf (x : Instr) : Key := if x.kind = 2 ∧ turns x.op = true ∧ x.b < x.a then ⟨x.kind, x.op, x.b, x.a, x.n⟩ else ⟨x.kind, x.op, x.a, x.b, x.n⟩
def reck (x : Instr) : Bool := decide (x.kind = 0) || decide (x.kind = 2)

variable {K : Ctx} (hF : Fix pgF K)
include hF

theorem Of_eq {sb m : Nat} {same : List (Int × Int)} {st : St} (hb : st.load1 sb 4 = .ok (.map (some m))) (hm : st.get m = some (mPairs I same)) {r t : Int} (h : OfTo same r t) : K.go (.call n_share_sharer_of [P sb 0, I r]) st = .ok (I t, st) := by
  refine Ok.eq (share_sharer_of_of hF fun J hJ => ?_)
  rw [share_sharer_of_eq]
  have hnc : ∀ (b o : Nat) s, sNilc (P b o) s = .ok (P b o, s) := fun b o s => rfl
  induction h with
  | @stop r h =>
    refine share_sharer_of_l0_of hF hJ ?_
    rw [share_sharer_of_l0_eq]
    have lk := sLook_pairs (f := I) hm r (I 0) true
    rw [h] at lk
    simp [hnc, hb, lk]
  | @step r q t h k ih =>
    refine share_sharer_of_l0_of hF hJ ?_
    rw [share_sharer_of_l0_eq]
    have lk := sLook_pairs (f := I) hm r (I 0) true
    rw [h] at lk
    simp [hnc, hb, lk, share_sharer_of_j0_eq hJ]
    exact ih

theorem OpTurns_eq (op : Int) (st : St) : K.go (.call n_word_Op_Turns [U op]) st = .ok (B (turns op), st) := by
  refine Ok.eq (word_Op_Turns_of hF fun J hJ => ?_)
  rw [word_Op_Turns_eq]
  unfold turns
  by_cases h0 : op = 0
  · simp [h0, word_Op_Turns_j0_eq hJ]
  by_cases h1 : op = 2
  · simp [h1, word_Op_Turns_j0_eq hJ]
  by_cases h2 : op = 5
  · simp [h2, word_Op_Turns_j0_eq hJ]
  by_cases h3 : op = 6
  · simp [h3, word_Op_Turns_j0_eq hJ]
  by_cases h4 : op = 7
  · simp [h4, word_Op_Turns_j0_eq hJ]
  by_cases h5 : op = 10
  · simp [h5, word_Op_Turns_j0_eq hJ]
  simp [h0, h1, h2, h3, h4, h5, word_Op_Turns_j0_eq hJ, word_Op_Turns_j1_eq hJ]

theorem Reckons_ok (sb : Value) (x : Instr) (st : St) : Ok (K.go (.call n_share_sharer_reckons [sb, vI x]) st) fun r => r.1 = .tuple #[vK (keyOf x), B (reck x)] ∧ Ext st r.2 := by
  generalize hQ : (fun r : Value × St => r.1 = .tuple #[vK (keyOf x), B (reck x)] ∧ Ext st r.2) = Q
  refine share_sharer_reckons_of hF fun J hJ => ?_
  rw [share_sharer_reckons_eq]
  have b1 : ∀ a b c d e s, sBuild [U 0, U 0, I 0, I 0, I 0] [(0, 1, U a), (1, 1, U b), (2, 1, I c), (3, 1, I d), (4, 1, I e)] s = .ok (vK ⟨a, b, c, d, e⟩, s) := fun a b c d e s => rfl
  have f2 : ∀ k s, sField none 2 (vK k) s = .ok (I k.a, s) := fun k s => rfl
  have f3 : ∀ k s, sField none 3 (vK k) s = .ok (I k.b, s) := fun k s => rfl
  have f5 : ∀ k s, sField (some 5) 0 (vK k) s = .ok (vK k, s) := fun k s => rfl
  have lr : ∀ k s, sLref (vK k) s = .ok (nothing, s) := fun k s => rfl
  have u0 : ∀ k s, sUpd 5 0 (.agg #[U 0, U 0, I 0, I 0, I 0]) (vK k) s = .ok (vK k, s) := fun k s => by simp [vK, Res.need]
  have u2 : ∀ (k : Key) a s, sUpd 1 2 (vK k) (I a) s = .ok (vK { k with a := a }, s) := fun k a s => by simp [vK, Res.need]
  have u3 : ∀ (k : Key) a s, sUpd 1 3 (vK k) (I a) s = .ok (vK { k with b := a }, s) := fun k a s => by simp [vK, Res.need]
  have hot : oneOf [vK (keyOf x), B (reck x)] = .tuple #[vK (keyOf x), B (reck x)] := rfl
  -- the end
  have hend : ∀ s, Ext st s → Ok (share_sharer_reckons_j0 J (vI x) (.agg #[U 0, U 0, I 0, I 0, I 0]) (vK (keyOf x)) s) Q := fun s hE => by
    rw [share_sharer_reckons_j0_eq hJ]
    have hr : reck x = (decide (x.kind = 0) || decide (x.kind = 2)) := rfl
    by_cases h0 : x.kind = 0
    · have : reck x = true := by simp [hr, h0]
      rw [this] at hot hQ
      simp [f5, u0, h0, hot, Res.need]
      rw [← hQ]; exact ⟨rfl, hE⟩
    · have : reck x = decide (x.kind = 2) := by simp [hr, h0]
      rw [this] at hot hQ
      simp [f5, u0, h0, hot, Res.need, sStays]
      rw [← hQ]; exact ⟨rfl, hE⟩
  have hE : Ext st st.bump.bump.bump := by simp
  by_cases h2 : x.kind = 2
  · have tr := OpTurns_eq hF x.op st.bump.bump.bump
    cases ht : turns x.op with
    | false =>
      have hk : keyOf x = ⟨x.kind, x.op, x.a, x.b, x.n⟩ := by simp [keyOf, ht]
      rw [hk] at hend
      simp [b1, u0, lr, f2, f3, h2, tr, ht]
      simp [h2] at hend
      exact hend _ hE
    | true =>
      by_cases hab : x.b < x.a
      · have hk : keyOf x = ⟨x.kind, x.op, x.b, x.a, x.n⟩ := by simp [keyOf, ht, h2, hab]
        rw [hk] at hend
        simp [h2] at hend
        simp [b1, u0, lr, f2, f3, u2, u3, h2, tr, ht, hab]
        exact hend _ hE
      · have hk : keyOf x = ⟨x.kind, x.op, x.a, x.b, x.n⟩ := by simp [keyOf, hab]
        rw [hk] at hend
        simp [h2] at hend
        simp [b1, u0, lr, f2, f3, h2, tr, ht, hab]
        exact hend _ hE
  · have hk : keyOf x = ⟨x.kind, x.op, x.a, x.b, x.n⟩ := by simp [keyOf, h2]
    rw [hk] at hend
    simp [b1, u0, lr, f2, f3, h2]
    exact hend _ hE

/-- The nearest scope alone. -/
theorem Find1_ok {hb km : Nat} {keys : List (Key × Int)} {st : St} (hh : st.get hb = some (.cells [.pointer none, .map (some km)])) (hk : st.get km = some (mKeys keys)) (hbl : hb < st.next) (hkl : km < st.next) (k : Key) :
    Ok (K.go (.call n_share_scope_find [P hb 0, vK k]) st) fun r => r.1 = (match kget keys k with | some v => .tuple #[I v, B true] | none => .tuple #[I 0, B false]) ∧ Ext st r.2 := by
  generalize hQ : (fun r : Value × St => r.1 = (match kget keys k with | some v => Value.tuple #[I v, B true] | none => .tuple #[I 0, B false]) ∧ Ext st r.2) = Q
  refine share_scope_find_of hF fun J hJ => ?_
  rw [share_scope_find_eq]
  have hnc : ∀ (b o : Nat) s, sNilc (P b o) s = .ok (P b o, s) := fun b o s => rfl
  have hne : ∀ (b o : Nat) s, sEq true (.nilOf .ptr) (P b o) (.pointer none) s = .ok (.bool true, s) := fun b o s => rfl
  have hnn : ∀ s, sEq true (.nilOf .ptr) (.pointer none) (.pointer none) s = .ok (.bool false, s) := fun s => rfl
  have f5 : ∀ k s, sField (some 5) 0 (vK k) s = .ok (vK k, s) := fun k s => rfl
  have lb : sLbox (vK k) st = .ok (vK k, st.bump) := rfl
  have hE : Ext st st.bump := by simp
  have l0 : st.bump.load1 hb 0 = .ok (.pointer none) := load1_eq (by rw [hE.get _ hbl]; exact hh) rfl
  have l1 : st.bump.load1 hb 1 = .ok (.map (some km)) := load1_eq (by rw [hE.get _ hbl]; exact hh) rfl
  have lk := sLook_keys (st := st.bump) (by rw [hE.get _ hkl]; exact hk) k
  unfold k5 at lk
  simp [lb]
  refine share_scope_find_l0_of hF hJ ?_
  rw [share_scope_find_l0_eq]
  cases hg : kget keys k with
  | some v =>
    rw [hg] at lk hQ
    simp [hne, share_scope_find_j0_eq hJ, hnc, l1, f5, lk]
    rw [← hQ]; exact ⟨rfl, hE⟩
  | none =>
    rw [hg] at lk hQ
    simp [hne, share_scope_find_j0_eq hJ, hnc, l1, f5, lk, share_scope_find_j2_eq hJ, l0]
    refine share_scope_find_l0_of hF hJ ?_
    rw [share_scope_find_l0_eq]
    simp [hnn, share_scope_find_j1_eq hJ]
    rw [← hQ]; exact ⟨rfl, hE⟩

theorem Below0_ok {ub lb db : Nat} {st : St} (h : st.get lb = some (.cells [.slice none 0 0])) (hl : lb < st.next) : Ok (K.go (.call n_dom_Tree_Below [.agg #[Sl ub 0 1 1, Sl lb 0 1 1, Sl db 0 1 1], I 0]) st) fun r => r.1 = .slice none 0 0 ∧ Ext st r.2 := by
  generalize hQ : (fun r : Value × St => r.1 = .slice none 0 0 ∧ Ext st r.2) = Q
  refine dom_Tree_Below_of hF fun J hJ => ?_
  rw [dom_Tree_Below_eq]
  have hE : Ext st st.bump := by simp
  have l0 : st.bump.load1 lb 0 = .ok (.slice none 0 0) := load1_eq (by rw [hE.get _ hl]; exact h) rfl
  simp [-sLen_slice, len1, dom_Tree_Below_j0_eq hJ, ix1, l0, CloneNil_eq hF]
  rw [← hQ]; exact ⟨rfl, hE⟩
end Go.Proofs.Ytenfblnmmmppbaa.Sh

