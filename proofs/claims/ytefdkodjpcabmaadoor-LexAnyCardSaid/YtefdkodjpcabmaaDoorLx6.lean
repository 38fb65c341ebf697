/-
  Awake of chapter 4.
-/
import Derived.Test.YtefdkodjpcabmaaDoorLx5
set_option linter.unusedVariables false
set_option linter.unusedSimpArgs false
set_option linter.unusedSectionVars false
set_option maxRecDepth 100000
namespace Go.AM.Lx
theorem num1 : numOf [49] = some 1 := by
 have : Lib.itoa 1 = [49] := by unfold Lib.itoa; rw [if_neg (by decide)]; rw [Lib.decDigits]; rfl
 rw [← this]; exact numOf_itoa (by decide) (by decide)
theorem num5 : numOf [53] = some 5 := by
 have : Lib.itoa 5 = [53] := by unfold Lib.itoa; rw [if_neg (by decide)]; rw [Lib.decDigits]; rfl
 rw [← this]; exact numOf_itoa (by decide) (by decide)
theorem num01 : numOf [48, 49] = none := by
 unfold numOf
 have h1 : Lib.parseIntB 64 [48, 49] = .ok 1 := by decide +kernel
 have h2 : Lib.itoa 1 = [49] := by unfold Lib.itoa; rw [if_neg (by decide)]; rw [Lib.decDigits]; rfl
 rw [h1]
 simp [h2]
theorem awake_a : split (events [37, 49, 32, 61, 32, 53]) = ([⟨2, 0, [], 1⟩, ⟨6, 3, [61], 0⟩, ⟨5, 5, [], 5⟩, ⟨0, 6, [], 0⟩], 0, 0) := by
 have n1 : next [37, 49, 32, 61, 32, 53] 0 = (⟨2, 0, [], 1⟩, 2) := by
  have h : number (List.take (digs [49, 32, 61, 32, 53]) [49, 32, 61, 32, 53]) = (1, 1) := by
   have h1 : digs [49, 32, 61, 32, 53] = 1 := by decide
   rw [h1]
   unfold number
   rw [show numLen (List.take 1 [49, 32, 61, 32, 53]) = 1 by decide, show List.take 1 (List.take 1 ([49, 32, 61, 32, 53] : List UInt8)) = [49] from rfl, num1]
  unfold next
  simp only
  rw [if_neg (by decide), if_neg (by decide), if_pos (by decide), h]
  rfl
 have n2 : next [61, 32, 53] 3 = (⟨6, 3, [61], 0⟩, 1) := by
  unfold next
  simp only
  rw [if_neg (by decide), if_pos (by decide)]
 have n3 : next [53] 5 = (⟨5, 5, [], 5⟩, 1) := by
  have h : number [53] = (5, 1) := by
   unfold number
   rw [show numLen [53] = 1 by decide, show List.take 1 ([53] : List UInt8) = [53] from rfl, num5]
  unfold next
  simp only
  rw [if_neg (by decide), if_neg (by decide), if_neg (by decide), if_neg (by decide), h]
 have e : events [37, 49, 32, 61, 32, 53] = [(⟨2, 0, [], 1⟩, 0), (⟨6, 3, [61], 0⟩, 0), (⟨5, 5, [], 5⟩, 0), (endT 6, 0)] := by
  unfold events
  rw [if_neg (by decide), evs_tok (by decide) (by decide) (by rw [n1]; decide), n1]
  show _ :: evs [32, 61, 32, 53] 2 = _
  rw [evs_blank _ _ (by decide), evs_tok (by decide) (by decide) (by rw [n2]; decide), n2]
  show _ :: _ :: evs [32, 53] 4 = _
  rw [evs_blank _ _ (by decide), evs_tok (by decide) (by decide) (by rw [n3]; decide), n3]
  show _ :: _ :: _ :: evs [] 6 = _
  rw [evs_nil]
 rw [e]
 rfl
theorem awake_b : split (events [32, 37, 48, 49]) = ([], 1, 4) := by
 have n1 : (next [37, 48, 49] 1).2 = 0 := by
  have h : number (List.take (digs [48, 49]) [48, 49]) = (0, 0) := by
   have h1 : digs [48, 49] = 2 := by decide
   rw [h1]
   unfold number
   rw [show numLen (List.take 2 [48, 49]) = 2 by decide, show List.take 2 (List.take 2 ([48, 49] : List UInt8)) = [48, 49] from rfl, num01]
  unfold next
  simp only
  rw [if_neg (by decide), if_neg (by decide), if_pos (by decide), h]
  rfl
 have e : events [32, 37, 48, 49] = [(endT 1, 4)] := by
  unfold events
  rw [if_neg (by decide), evs_blank _ _ (by decide), evs_bad (by decide) (by decide) n1]
 rw [e]
 rfl
end Go.AM.Lx
namespace Go.Proofs.YtefdkodjpcabmaaDoor.Sh
open Go Go.AM Go.Proofs Go.AM.Lx
structure SplitR (st : St) (x : List Tok × Nat × Int) (v : Value) (s : St) (ids : List Nat) : Prop where
 ext : Ext st s
 toks : RepSl 4 RTok s v x.1 ids
 nd : ids.Nodup
 fresh : ∀ id ∈ ids, st.next ≤ id ∧ id < s.next
theorem SplitR.len {st : St} {x : List Tok × Nat × Int} {v : Value} {s : St} {ids : List Nat} (h : SplitR st x v s ids) (s' : St) : sLen .slice v s' = .ok (I x.1.length, s') := h.toks.len s'
theorem SplitR.at {st : St} {x : List Tok × Nat × Int} {v : Value} {s : St} {ids : List Nat} (h : SplitR st x v s ids) {i : Nat} {t : Tok} (hi : x.1[i]? = some t) :
 ∃ b o, (∀ s' : St, sIxA 4 none v (I i) s' = .ok (P b o, s')) ∧ b < s.next ∧ ∀ s' : St, Ext s s' → s'.loadN b o 4 = .ok (cTok t) ∧ ∀ k y, (cTok t)[k]? = some y → s'.load1 b (o + k) = .ok y := by
 obtain ⟨b, cs, is, h1, h2, h3, h4, ⟨rfl, rfl⟩, h6, h7, h8⟩ := h.toks.at hi
 have hb := (h.fresh b h2).2
 exact ⟨b, i * 4, h1, hb, fun s' hE => ⟨h4 s' (hE.get _ hb), fun k y hy => h8 s' k y (hE.get _ hb) hy⟩⟩
variable {K : Ctx} (hF : Fix pgF K)
include hF
theorem Split_thn {s : List UInt8} (hsh : Short s) {st st1 : St} (hv : VOk st) {R : Type} {f : Value × St → Res R} {Q : R → Prop} (h : ∀ v s' ids, SplitR st (split (events s)) v s' ids → Ok (f (.tuple #[v, I (split (events s)).2.1, I (split (events s)).2.2], s')) Q) :
 Ok (Res.thn st1 (K.go (.call n_lex_Split [T s]) st) f) Q :=
 (Split_ok hF hsh hv).thn fun ⟨a, s'⟩ ⟨v, ids, e, h1, h2, h3, h4⟩ => by
   simp only at e h1 h2 h4
   subst e
   exact h v s' ids ⟨h1, h2, h3, h4⟩
theorem Awake04_ok {st : St} (hv : VOk st) : Ok (K.go (.call n_refinerylaw04_Awake []) st) fun r => r.1 = B true ∧ Ext st r.2 := by
 refine refinerylaw04_Awake_of hF fun J hJ => ?_
 rw [refinerylaw04_Awake_eq]
 generalize hQ : (fun r : Value × St => r.1 = B true ∧ Ext st r.2) = Q
 refine Split_thn hF (s := [37, 49, 32, 61, 32, 53]) (by decide) hv fun v s1 ids h1 => ?_
 rw [awake_a] at *
 simp only [sExtract_eq, List.getElem?_toArray, List.getElem?_cons_zero, List.getElem?_cons_succ, Res.of_some, Res.bind_ok, thn_ok]
 refine Split_thn hF (s := [32, 37, 48, 49]) (by decide) (hv.mono h1.ext) fun v2 s2 ids2 h2 => ?_
 rw [awake_b] at *
 obtain ⟨b, o, k1, kb, k2⟩ := h1.at (i := 0) (t := ⟨2, 0, [], 1⟩) rfl
 obtain ⟨b', o', m1, mb, m2⟩ := h1.at (i := 2) (t := ⟨5, 5, [], 5⟩) rfl
 have l1 := (k2 s2 h2.ext).2 3 (I 1) rfl
 have l2 := (m2 s2 h2.ext).2 0 (U 5) rfl
 have k1 : ∀ s', sIxA 4 none v (I 0) s' = .ok (P b o, s') := k1
 have m1 : ∀ s', sIxA 4 none v (I 2) s' = .ok (P b' o', s') := m1
 have hl : ∀ s', sLen .slice v s' = .ok (I 4, s') := h1.len
 have l2 : s2.load1 b' o' = .ok (U 5) := l2
 rw [← hQ]
 simp [Res.of, k1, m1, l1, l2, hl]
 exact h1.ext.trans h2.ext
end Go.Proofs.YtefdkodjpcabmaaDoor.Sh
