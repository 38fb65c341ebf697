/-
  ShareCopies: whatever it is given, the law's function answers true.
-/
import Derived.Test.YtenfblnmmmppbaaSr4
set_option linter.unusedVariables false
set_option linter.unusedSimpArgs false
set_option linter.unusedSectionVars false
set_option maxRecDepth 100000
namespace Go.Proofs.Ytenfblnmmmppbaa.Sh
open Go Go.AM Go.Proofs

/-- What there is while the block is laid down. -/
structure LI (st0 s : St) (vi : Value) (ys : List Instr) (ids : List Nat) : Prop where
  ext : Ext st0 s
  ls : RepSl 7 PInstr s vi ys ids
  nd : ids.Nodup
  lo : ∀ id ∈ ids, st0.next ≤ id ∧ id < s.next
theorem LI.push {st0 s : St} {vi : Value} {ys : List Instr} {ids : List Nat} (h : LI st0 s vi ys ids) (hro : st0.ro ≤ st0.next) (x : Instr) (hl : ys.length < 1000) : ∃ vi' s' ids', sAppend 7 48 vi (Sl s.next 0 1 7) (s.alloc (.cells (cI x))) = .ok (vi', s') ∧ LI st0 s' vi' (ys ++ [x]) ids' := by
  have hn := h.ext.next
  obtain ⟨v', s1, ids', r, p1, p2, p3, p4, p5, p6⟩ := RepSl.push (bytes := 48) PInstr.fr h.ls (by omega) (x := x) (cs := cI x) (is := []) ⟨rfl, rfl⟩ rfl rfl (fun id hi => (h.lo id (by simpa using hi)).2) (fun id hi => by
    have := (h.lo id hi).1; rw [h.ext.ro]; omega) (by simpa using h.nd) (by omega)
  refine ⟨v', s1, ids', r, ⟨ext_of h.ext (by omega) p6 (fun id hi => (h.lo id hi).1) p4, p1, p2, fun id hi => ?_⟩⟩
  rcases p3 id hi with q | q | q
  · have := h.lo id q; omega
  · cases q
  · omega

theorem cp_take (i : Nat) (o : Int) {m : Nat} (h : i < m) : (⟨3, 0, 0, 0, 0, 0, 0⟩ :: (List.range i).map cpI) ++ [cpI i] = ⟨3, 0, 0, 0, 0, 0, 0⟩ :: (List.range (i + 1)).map cpI := by
  rw [List.range_succ, List.map_append]; rfl

variable {K : Ctx} (hF : Fix pgF K)
include hF

section
variable {J : JT (Value × St)} (hJ : IsJ K (retK refinerylaw19_ShareCopies_c.results) J) {Q : Value × St → Prop}
include hJ

theorem SC_l0 {st0 : St} {v1 v5 : Value} {mm : Last} {m : Nat} (hm : m ≤ 20) (hro : st0.ro ≤ st0.next)
    (hk : ∀ s vi ids, LI st0 s vi (⟨3, 0, 0, 0, 0, 0, 0⟩ :: (List.range m).map cpI) ids → Ok (refinerylaw19_ShareCopies_j2 J v1 v5 (vB 0 (.slice none 0 0) vi mm) s) Q) (d : Nat) : ∀ (i : Nat) (s : St) (vi : Value) (ids : List Nat), i + d = m → LI st0 s vi (⟨3, 0, 0, 0, 0, 0, 0⟩ :: (List.range i).map cpI) ids →
    Ok (refinerylaw19_ShareCopies_l0 J v1 v5 (vB 0 (.slice none 0 0) vi mm) (I m) (I i) s) Q := by
  induction d with
  | zero =>
    intro i s vi ids hi h
    refine refinerylaw19_ShareCopies_l0_of hF hJ ?_
    rw [refinerylaw19_ShareCopies_l0_eq]
    have : i = m := by omega
    subst this
    simp
    exact hk s vi ids h
  | succ d ih =>
    intro i s vi ids hi h
    refine refinerylaw19_ShareCopies_l0_of hF hJ ?_
    rw [refinerylaw19_ShareCopies_l0_eq]
    have hlt : i < m := by omega
    have hlt' : (i : Int) < m := by omega
    obtain ⟨vi', s', ids', e1, e2⟩ := h.push hro (cpI i) (by simp; omega)
    rw [cp_take i 0 hlt] at e2
    have hu := sUpd_vBi 0 (.slice none 0 0) vi mm s' e2.ls.cell e2.ls.tup e2.ls.cells
    have hw : IntKind.i64.wrap ((i : Int) + 1) = (i : Int) + 1 := wrap_id (by omega)
    have hb : ∀ s, sBuild [U 0, U 0, I 0, I 0, I 0, I 0, I 0] [(0, 1, U 1), (2, 1, I ((i : Int) + 1)), (3, 1, I i)] s = .ok (vI (cpI i), s) := fun s => rfl
    simp [hlt', refinerylaw19_ShareCopies_j1_eq hJ, hw, hb, e1, hu, refinerylaw19_ShareCopies_j3_eq hJ]
    exact ih (i + 1) s' vi' ids' (by omega) e2
end

theorem ShareCopies_ok {n k : Int} (hn : 0 ≤ n ∧ n ≤ 255) (hk : 0 ≤ k ∧ k ≤ 255) (st : St) (hro : st.ro ≤ st.next) : Ok (K.go (.call n_refinerylaw19_ShareCopies [U n, U k]) st) fun r => r.1 = B true := by
  refine refinerylaw19_ShareCopies_of hF fun J hJ => ?_
  rw [refinerylaw19_ShareCopies_eq]
  refine (Awake19_ok hF st hro).call fun s1 hE1 => ?_
  have hro1 := hE1.roOk hro
  have tn : n.tmod 20 = n % 20 := Int.tmod_eq_emod_of_nonneg hn.1
  obtain ⟨m, hm⟩ : ∃ m : Nat, (m : Int) = 1 + n % 20 := ⟨(1 + n % 20).toNat, by omega⟩
  have hm20 : m ≤ 20 := by omega
  have w0 : IntKind.i64.wrap (n % 20) = n % 20 := wrap_id (by omega)
  have w1 : IntKind.i64.wrap (1 + n % 20) = m := by rw [hm]; exact wrap_id (by omega)
  have b1 : ∀ s, sBuild [U 0, U 0, I 0, I 0, I 0, I 0, I 0] [(0, 1, U 3)] s = .ok (vI ⟨3, 0, 0, 0, 0, 0, 0⟩, s) := fun s => rfl
  have b2 : ∀ s, sBuild [U 0, I 0, I 0, I 0] [(0, 1, U 2), (1, 1, I m)] s = .ok (vL ⟨2, m, 0, 0⟩, s) := fun s => rfl
  have b3 : ∀ s, sBuild [I 0, .slice none 0 0, .slice none 0 0, U 0, I 0, I 0, I 0] [(2, 1, Sl s1.next 0 1 7), (3, 4, vL ⟨2, m, 0, 0⟩)] s = .ok (vB 0 (.slice none 0 0) (Sl s1.next 0 1 7) ⟨2, m, 0, 0⟩, s) := fun s => rfl
  have hup : ∀ s, sUpd 7 0 (.agg #[I 0, .slice none 0 0, .slice none 0 0, U 0, I 0, I 0, I 0]) (vB 0 (.slice none 0 0) (Sl s1.next 0 1 7) ⟨2, m, 0, 0⟩) s = .ok (vB 0 (.slice none 0 0) (Sl s1.next 0 1 7) ⟨2, m, 0, 0⟩, s) := fun s => by simp [vB, Res.need]
  simp [refinerylaw19_ShareCopies_j0_eq hJ, tn, w0, w1, b1, b2, b3, hup]
  have g1 : ((s1.alloc (.cells (cI ⟨3, 0, 0, 0, 0, 0, 0⟩))).bump).get s1.next = some (.cells ([cI ⟨3, 0, 0, 0, 0, 0, 0⟩].flatten)) := by
    rw [get_bump, if_neg (by simp), get_alloc, if_pos rfl]; simp
  refine SC_l0 hF hJ (st0 := s1) hm20 hro1 (fun s2 vi ids h => ?_) m 0 ((s1.alloc (.cells (cI ⟨3, 0, 0, 0, 0, 0, 0⟩))).bump) (Sl s1.next 0 1 7) [s1.next] (by omega) ⟨by simp, .inr ⟨s1.next, [cI ⟨3, 0, 0, 0, 0, 0, 0⟩], [[]], rfl, g1, rfl, rfl, fun cs hc => by rw [List.mem_singleton.1 hc]; exact ⟨rfl, rfl⟩, fun i x cs is h1 h2 h3 => by
    cases i with
    | zero => simp at h1 h2 h3; subst h1; subst h2; subst h3; exact ⟨rfl, rfl⟩
    | succ i => simp at h1, by simp⟩, by simp, fun id hi => by simp at hi; subst hi; exact ⟨Nat.le_refl _, by simp⟩⟩
  rw [refinerylaw19_ShareCopies_j2_eq hJ]
  have w2 : IntKind.i64.wrap ((m : Int) + 1) = (m : Int) + 1 := wrap_id (by omega)
  have tk : k.tmod ((m : Int) + 1) = k % ((m : Int) + 1) := Int.tmod_eq_emod_of_nonneg hk.1
  have wk : IntKind.i64.wrap k = k := wrap_id (by omega)
  have p0 := Int.emod_nonneg k (show (m : Int) + 1 ≠ 0 by omega)
  have p1 := Int.emod_lt_of_pos k (show (0 : Int) < m + 1 by omega)
  have wo : IntKind.i64.wrap (k % ((m : Int) + 1)) = k % ((m : Int) + 1) := wrap_id (by omega)
  have hz : ¬ (m : Int) + 1 = 0 := by omega
  generalize ho : k % ((m : Int) + 1) = o at *
  have b4 : ∀ s, sBuild [U 0, U 0, I 0, I 0, I 0, I 0, I 0] [(0, 1, U 4), (3, 1, I o)] s = .ok (vI ⟨4, 0, 0, o, 0, 0, 0⟩, s) := fun s => rfl
  obtain ⟨vi', s3, ids', e1, h3⟩ := h.push hro1 ⟨4, 0, 0, o, 0, 0, 0⟩ (by simp; omega)
  have h3 : LI s1 s3 vi' (cpL m o) ids' := h3
  have hu := sUpd_vBi 0 (.slice none 0 0) vi ⟨2, m, 0, 0⟩ s3 h3.ls.cell h3.ls.tup h3.ls.cells
  have b6 : ∀ v s, sBuild [.slice none 0 0] [(0, 1, .slice v 1 7)] s = .ok (.agg #[.slice v 1 7], s) := fun v s => rfl
  have hrem : ∀ s, sBin .rem (I k) (I ((m : Int) + 1)) s = .ok (I o, s) := fun s => by simp [Res.need, tk, wo, hz]
  simp [-storeN_def, wk, w2, hrem, b4, e1, hu, b6]
  have hX : Ext s3 (s3.alloc (.cells (cB 0 (.slice none 0 0) vi' ⟨2, m, 0, 0⟩))) := by simp
  have hp : RProg (Bel (s3.next + 1)) (s3.alloc (.cells (cB 0 (.slice none 0 0) vi' ⟨2, m, 0, 0⟩))) (Sl s3.next 0 1 7) [⟨0, [], cpL m o, ⟨2, m, 0, 0⟩⟩] :=
    .inr ⟨s3.next, 0, _, rfl, Nat.lt_succ_self _, by rw [get_alloc, if_pos rfl], by simp [cB], fun i x hx => by
      cases i with
      | zero =>
        simp at hx
        subst hx
        exact ⟨.slice none 0 0, vi', rfl, .nil _ _ _ _ _, ((h3.ls.frame PInstr.fr fun id hi => hX.get id (h3.lo id hi).2).rsl (R' := RInstr) fun cs x is _ _ h => h.1).in fun id hi => Nat.lt_succ_of_lt (h3.lo id hi).2⟩
      | succ i => simp at hx⟩
  have ho2 : 0 ≤ o ∧ o ≤ m := ⟨p0, by omega⟩
  refine (Share_ok hF (A := Bel (s3.next + 1)) (st := s3.alloc (.cells (cB 0 (.slice none 0 0) vi' ⟨2, m, 0, 0⟩))) (fun id h => h) (hX.roOk (h3.ext.roOk hro1)) hp (cp_check hm20 ho2) rfl rfl (by rw [cpL_len]; omega) (cp_flat ho2)).thn fun ⟨r1, s4⟩ ⟨vq, f1, f2, hE4⟩ => ?_
  simp only at f1 f2 hE4 ⊢
  subst f1
  rw [cp_out ho2] at f2
  have hfc : ∀ v s, sField (some 1) 0 (.agg #[v]) s = .ok (.agg #[v], s) := fun v s => rfl
  have hu1 : ∀ s, sUpd 1 0 (.agg #[.slice none 0 0]) (.agg #[vq]) s = .ok (.agg #[vq], s) := fun s => by
    rcases f2 with ⟨h, _⟩ | ⟨b, o, xs, rfl, _⟩
    · cases h
    · simp [Res.need]
  have b7 : ∀ s, sBuild [U 0, U 0, I 0, I 0, I 0, I 0, I 0] [(0, 1, U 4)] s = .ok (vI ⟨4, 0, 0, 0, 0, 0, 0⟩, s) := fun s => rfl
  have b8 : ∀ s : St, sLit 7 2 [U 0, U 0, I 0, I 0, I 0, I 0, I 0, U 0, U 0, I 0, I 0, I 0, I 0, I 0] [(0, 7, vI ⟨3, 0, 0, 0, 0, 0, 0⟩), (7, 7, vI ⟨4, 0, 0, 0, 0, 0, 0⟩)] s = .ok (Sl s.next 0 2 7, s.alloc (.cells ([(⟨3, 0, 0, 0, 0, 0, 0⟩ : Instr), ⟨4, 0, 0, 0, 0, 0, 0⟩].map cI).flatten)) := fun s => rfl
  have b9 : ∀ s, sBuild [U 0, I 0, I 0, I 0] [(0, 1, U 2)] s = .ok (vL ⟨2, 0, 0, 0⟩, s) := fun s => rfl
  have b10 : ∀ (c : Nat) s, sBuild [I 0, .slice none 0 0, .slice none 0 0, U 0, I 0, I 0, I 0] [(2, 1, Sl c 0 2 7), (3, 4, vL ⟨2, 0, 0, 0⟩)] s = .ok (vB 0 (.slice none 0 0) (Sl c 0 2 7) ⟨2, 0, 0, 0⟩, s) := fun c s => rfl
  have b1' : ∀ s, sBuild [U 0, U 0, I 0, I 0, I 0, I 0, I 0] [(0, 1, U 3)] s = .ok (vI ⟨3, 0, 0, 0, 0, 0, 0⟩, s) := fun s => rfl
  generalize hs5 : s4.bump.alloc (.cells ([(⟨3, 0, 0, 0, 0, 0, 0⟩ : Instr), ⟨4, 0, 0, 0, 0, 0, 0⟩].map cI).flatten) = s5
  have b8' := b8 s4.bump
  rw [hs5] at b8'
  have n5 : s5.next = s4.next + 2 := by rw [← hs5]; rfl
  have g5 : s5.get (s4.next + 1) = some (.cells ([(⟨3, 0, 0, 0, 0, 0, 0⟩ : Instr), ⟨4, 0, 0, 0, 0, 0, 0⟩].map cI).flatten) := by rw [← hs5, get_alloc, if_pos (by rfl)]
  have E5 : Ext s4 s5 := by rw [← hs5]; simp
  clear hs5
  have b8' : sLit 7 2 [U 0, U 0, I 0, I 0, I 0, I 0, I 0, U 0, U 0, I 0, I 0, I 0, I 0, I 0] [(0, 7, vI ⟨3, 0, 0, 0, 0, 0, 0⟩), (7, 7, vI ⟨4, 0, 0, 0, 0, 0, 0⟩)] s4.bump = .ok (Sl (s4.next + 1) 0 2 7, s5) := b8'
  simp [-storeN_def, hu1, hfc, b1', b7, b8', b9, b10, b6]
  have E6 : Ext s5 (s5.alloc (.cells (cB 0 (.slice none 0 0) (Sl (s4.next + 1) 0 2 7) ⟨2, 0, 0, 0⟩))) := by simp
  have hq : RProg (Bel (s5.next + 1)) (s5.alloc (.cells (cB 0 (.slice none 0 0) (Sl (s4.next + 1) 0 2 7) ⟨2, 0, 0, 0⟩))) (Sl s5.next 0 1 7) [⟨0, [], [⟨3, 0, 0, 0, 0, 0, 0⟩, ⟨4, 0, 0, 0, 0, 0, 0⟩], ⟨2, 0, 0, 0⟩⟩] :=
    laid_prog (c := s4.next + 1) (by rw [E6.get _ (by omega)]; exact g5) (by rw [get_alloc, if_pos rfl]; rfl) (by show s4.next + 1 < s5.next + 1; omega) (Nat.lt_succ_self _)
  have E46 := E5.trans E6
  refine (Same_ok hF (A := Bel s4.next) (A' := Bel (s5.next + 1)) (st := s5.alloc (.cells (cB 0 (.slice none 0 0) (Sl (s4.next + 1) 0 2 7) ⟨2, 0, 0, 0⟩))) (fun id h => by have h : id < s4.next := h; show id < s5.next + 1; omega) (fun id h => h) (f2.mono (E46.agree fun id h => h)) hq (by decide) (fun b hb => by
    rw [List.mem_singleton.1 hb]
    simp [Block.fits])).call fun s6 hE6 => ?_
  simp

theorem ShareCopies_args (st : St) (args : List Value) (hro : st.ro = st.next) (h : WVs pg st [5, 5] args) : Ok (K.go (.call n_refinerylaw19_ShareCopies args) st) fun r => r.1 = .bool true := by
  match args, h with
  | [v0, v1], ⟨h0, h1, _⟩ =>
    obtain ⟨n0, rfl, w0⟩ := h0.int Try.underlying5
    obtain ⟨n1, rfl, w1⟩ := h1.int Try.underlying5
    exact ShareCopies_ok hF (bounds_u8 w0) (bounds_u8 w1) st (Nat.le_of_eq hro)
end Go.Proofs.Ytenfblnmmmppbaa.Sh

