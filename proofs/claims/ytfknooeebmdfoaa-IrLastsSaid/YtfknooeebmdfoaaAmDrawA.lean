/-
  THE ABSTRACT MACHINE, 19: regions whose order is open, 1: operations that touch no heap, that look, that make something new; a step beside a part of the heap.
-/
import Derived.Test.YtfknooeebmdfoaaAmWalkC
set_option linter.unusedVariables false
set_option linter.unusedSimpArgs false
set_option linter.unnecessarySimpa false
namespace Go.AM

section
variable {st st' : St} {ρ : Operand → Value} {o : AOp} {v : Value}

theorem pure_run (hp : o.isPure = true) (h : o.run st ρ = .ok (v, st')) : st' = st ∧ ∀ st2, o.run st2 ρ = .ok (v, st2) := by
  unfold AOp.isPure at hp
  split at hp <;> first | (cases hp; done) | skip
  all_goals simp only [AOp.run] at h ⊢
  case h_1 => cases h; exact ⟨rfl, fun _ => rfl⟩
  case h_2 =>
    split at h
    · rename_i t hc; cases h; exact ⟨rfl, fun _ => by simp [hc]⟩
    · cases h
  case h_8 => rename_i x; cases hx : ρ x <;> simp only [aconv, hx] at h ⊢ <;> first | (cases h; done) | (cases h; exact ⟨rfl, fun _ => rfl⟩)
  case h_9 => rename_i k x; cases hx : ρ x <;> simp only [aconv, hx] at h ⊢ <;> first | (cases h; done) | (cases h; exact ⟨rfl, fun _ => rfl⟩)
  case h_17 =>
    rename_i t z ok x
    cases hx : ρ x <;> simp only [hx] at h ⊢ <;> first
      | (cases h; done)
      | ((repeat' split at h) <;> first
          | (cases h; done)
          | (cases h; refine ⟨rfl, fun _ => ?_⟩; simp [*]; done)
          | (cases h; refine ⟨rfl, fun _ => ?_⟩; simp_all; done))
  case h_19 => rename_i x; cases hx : ρ x <;> simp only [hx] at h ⊢ <;> first | (cases h; done) | (cases h; exact ⟨rfl, fun _ => rfl⟩)
  case h_20 => rename_i x; cases hx : ρ x <;> simp only [hx] at h ⊢ <;> first | (cases h; done) | (cases h; exact ⟨rfl, fun _ => rfl⟩)
  case h_23 =>
    rename_i x lo hi mx
    have e : ∀ (s1 s2 : St) (y : Value) (a b c : Option Value), aslice s1 .str y a b c = aslice s2 .str y a b c := by
      intro s1 s2 y a b c; cases y <;> rfl
    simp only [Res.bind_eq_ok, Res.pure_eq] at h
    obtain ⟨u, hu, h⟩ := h
    cases h
    exact ⟨rfl, fun st2 => by rw [e st2 st, hu]; rfl⟩
  all_goals first
    | (cases h; exact ⟨rfl, fun _ => rfl⟩)
    | (simp only [Res.bind_eq_ok, Res.pure_eq] at h; obtain ⟨u, hu, h⟩ := h; cases h; refine ⟨rfl, fun _ => ?_⟩; simp [hu]; done)
    | (split at h <;> first
         | (cases h; done)
         | (cases h; refine ⟨rfl, fun _ => ?_⟩; simp [*]; done)
         | (simp only [Res.bind_eq_ok, Res.pure_eq] at h; obtain ⟨u, hu, h⟩ := h; cases h; refine ⟨rfl, fun _ => ?_⟩; simp [*]; done)
         | (simp only [Res.bind_eq_ok, Res.pure_eq] at h; obtain ⟨u, hu, u2, hu2, h⟩ := h; cases h; refine ⟨rfl, fun _ => ?_⟩; simp [*]; done))

theorem alloc_run (ha : o.isAlloc = true) (h : o.run st ρ = .ok (v, st')) : ∃ ob, st' = st.alloc ob ∧ ob.live = true ∧ ∀ st2 : St, st2.next = st.next → o.run st2 ρ = .ok (v, st2.alloc ob) := by
  unfold AOp.isAlloc at ha
  split at ha <;> first | (cases ha; done) | skip
  all_goals simp only [AOp.run] at h ⊢
  case h_1 => cases h; exact ⟨_, rfl, rfl, fun st2 e => by rw [e]⟩
  case h_2 =>
    simp only [Res.bind_eq_ok, Res.pure_eq] at h
    obtain ⟨u, hu, h⟩ := h
    cases h; exact ⟨_, rfl, rfl, fun st2 e => by rw [e, hu]; rfl⟩
  case h_3 =>
    simp only [Res.bind_eq_ok, Res.pure_eq] at h
    obtain ⟨u, hu, h⟩ := h
    cases h; exact ⟨_, rfl, rfl, fun st2 e => by rw [e, hu]; rfl⟩
  case h_4 => cases h; exact ⟨_, rfl, rfl, fun st2 e => by rw [e]⟩
  case h_5 =>
    split at h
    · rename_i a b ha hb
      simp only [Res.bind_eq_ok, Res.pure_eq] at h
      obtain ⟨u, hu, h⟩ := h
      cases h; exact ⟨_, rfl, rfl, fun st2 e => by rw [e, hu]; rfl⟩
    · cases h

theorem mapOf_ok {x : Value} {es : List (Value × Value)} (h : mapOf st x = .ok es) : (∀ id, idOf x = some id → ∃ ob, st.get id = some ob ∧ ob.live = true) ∧ ∀ st2 : St, (∀ id, idOf x = some id → st2.get id = st.get id) → mapOf st2 x = .ok es := by
  unfold mapOf at h
  split at h
  · cases h; exact ⟨fun id e => by simp [idOf] at e, fun _ _ => rfl⟩
  · rename_i r
    refine ⟨fun id e => ?_, fun st2 he => ?_⟩
    · simp only [idOf, Option.some.injEq] at e; subst e; exact ⟨_, map_get h, rfl⟩
    · have hg := he r rfl
      simp only [mapOf, St.map, hg, map_get h]
  · cases h

theorem aslice_ok {k : SliceK} {x u : Value} {lo hi mx : Option Value} (h : aslice st k x lo hi mx = .ok u) : (∀ id, idOf x = some id → ∃ ob, st.get id = some ob ∧ ob.live = true) ∧ ∀ st2 : St, (∀ id, idOf x = some id → st2.get id = st.get id) → aslice st2 k x lo hi mx = .ok u := by
  unfold aslice at h
  split at h
  · exact ⟨fun id e => by simp [idOf] at e, fun st2 _ => by simp only [aslice, h]⟩
  · exact ⟨fun id e => by simp [idOf] at e, fun st2 _ => by simp only [aslice, h]⟩
  · rename_i s b of n s'
    simp only [Res.bind_eq_ok] at h
    obtain ⟨_, h1, xs, hxs, h⟩ := h
    refine ⟨fun id e => ?_, fun st2 he => ?_⟩
    · simp only [idOf, Option.some.injEq] at e; subst e; exact ⟨_, cells_get hxs, rfl⟩
    · have hg := he b rfl
      have hx2 : st2.cells b = .ok xs := by simp only [St.cells, hg, cells_get hxs]
      simp only [aslice, h1, hx2, Res.bind_ok]
      exact Res.bind_eq_ok.2 h
  · rename_i n s b of
    simp only [Res.bind_eq_ok] at h
    obtain ⟨_, h1, xs, hxs, h⟩ := h
    refine ⟨fun id e => ?_, fun st2 he => ?_⟩
    · simp only [idOf, Option.some.injEq] at e; subst e; exact ⟨_, cells_get hxs, rfl⟩
    · have hg := he b rfl
      have hx2 : st2.cells b = .ok xs := by simp only [St.cells, hg, cells_get hxs]
      simp only [aslice, h1, hx2, Res.bind_ok]
      simp only [Res.bind_eq_ok]
      exact h
  · cases h

theorem look_run (hl : o.isLook = true) (h : o.run st ρ = .ok (v, st')) : st' = st ∧ (∀ id, o.looks ρ = some id → ∃ ob, st.get id = some ob ∧ ob.live = true) ∧
    ∀ st2 : St, (∀ id, o.looks ρ = some id → st2.get id = st.get id) → o.run st2 ρ = .ok (v, st2) := by
  have hs : ∀ {k : SliceK} {x : Operand} {lo hi mx : Option Operand}, (AOp.slice k x lo hi mx).run st ρ = .ok (v, st') → st' = st ∧ (∀ id, (AOp.slice k x lo hi mx).looks ρ = some id → ∃ ob, st.get id = some ob ∧ ob.live = true) ∧
    ∀ st2 : St, (∀ id, (AOp.slice k x lo hi mx).looks ρ = some id → st2.get id = st.get id) → (AOp.slice k x lo hi mx).run st2 ρ = .ok (v, st2) := by
    intro k x lo hi mx h
    simp only [AOp.run, Res.bind_eq_ok, Res.pure_eq] at h
    obtain ⟨u, hu, h⟩ := h
    cases h
    obtain ⟨k1, k2⟩ := aslice_ok hu
    refine ⟨rfl, fun id e => k1 id (by simpa [AOp.looks, AOp.lookAt] using e), fun st2 he => ?_⟩
    simp only [AOp.run, k2 st2 (fun id e => he id (by simpa [AOp.looks, AOp.lookAt] using e))]; rfl
  unfold AOp.isLook at hl
  split at hl <;> first | (cases hl; done) | skip
  case h_1 n a =>
    have aux : ∀ {b of : Nat} (hp : asPtr (ρ a) = .ok (b, of)), AOp.looks ρ (.load n a) = some b := by
      intro b of hp
      unfold asPtr at hp
      split at hp
      · rename_i b' o' hx; cases hp; simp [AOp.looks, AOp.lookAt, hx, idOf]
      · cases hp
    cases n with
    | none =>
      simp only [AOp.run, Res.bind_eq_ok, Res.pure_eq, St.load1] at h
      obtain ⟨⟨b, of⟩, hp, u, ⟨xs, hxs, hu⟩, h⟩ := h
      cases h
      have hid := aux hp
      refine ⟨rfl, fun id e => ?_, fun st2 he => ?_⟩
      · rw [hid] at e; cases e; exact ⟨_, cells_get hxs, rfl⟩
      · have hg := he b hid
        have hx2 : st2.cells b = .ok xs := by simp only [St.cells, hg, cells_get hxs]
        simp only [AOp.run, hp, Res.bind_ok, St.load1, hx2, hu, Res.pure_eq]
    | some n =>
      simp only [AOp.run, Res.bind_eq_ok, Res.pure_eq, St.loadN] at h
      obtain ⟨⟨b, of⟩, hp, u, ⟨xs, hxs, u1, hu1, hu⟩, h⟩ := h
      cases h
      cases hu
      have hid := aux hp
      refine ⟨rfl, fun id e => ?_, fun st2 he => ?_⟩
      · rw [hid] at e; cases e; exact ⟨_, cells_get hxs, rfl⟩
      · have hg := he b hid
        have hx2 : st2.cells b = .ok xs := by simp only [St.cells, hg, cells_get hxs]
        simp only [AOp.run, hp, Res.bind_ok, St.loadN, hx2, hu1, Res.pure_eq]
  case h_2 q z ok x k =>
    simp only [AOp.run, Res.bind_eq_ok, Res.pure_eq, alook] at h
    obtain ⟨u, ⟨u1, h1, es, hes, u2, h2, h3⟩, h⟩ := h
    cases h
    cases h3
    obtain ⟨k1, k2⟩ := mapOf_ok hes
    refine ⟨rfl, fun id e => k1 id (by simpa [AOp.looks, AOp.lookAt] using e), fun st2 he => ?_⟩
    simp only [AOp.run, alook, h1, k2 st2 (fun id e => he id (by simpa [AOp.looks, AOp.lookAt] using e)), h2, Res.bind_ok, Res.pure_eq]
  case h_3 x =>
    simp only [AOp.run] at h
    cases hx : ρ x with
    | map r =>
      cases r with
      | none =>
        simp only [hx] at h
        cases h
        exact ⟨rfl, fun id e => by simp [AOp.looks, AOp.lookAt, hx, idOf] at e, fun st2 _ => by simp [AOp.run, hx]⟩
      | some r =>
        simp only [hx, Res.bind_eq_ok, Res.pure_eq] at h
        obtain ⟨es, hes, h⟩ := h
        cases h
        refine ⟨rfl, fun id e => ?_, fun st2 he => ?_⟩
        · simp only [AOp.looks, AOp.lookAt, hx, idOf, Option.bind_some, Option.some.injEq] at e; subst e; exact ⟨_, map_get hes, rfl⟩
        · have hg := he r (by simp [AOp.looks, AOp.lookAt, hx, idOf])
          have hx2 : st2.map r = .ok es := by simp only [St.map, hg, map_get hes]
          simp [AOp.run, hx, hx2]
    | _ => simp [hx] at h
  case h_4 => exact hs h
  case h_5 => exact hs h

/-! ### The same -/

theorem sameCell_eq {x y : Value} (h : sameCell x y = true) : x = y := by
  unfold sameCell at h
  split at h <;> simp_all

theorem sameCells_eq : ∀ {xs ys : List Value}, sameCells xs ys = true → xs = ys := by
  intro xs
  induction xs with
  | nil => intro ys h; cases ys <;> simp [sameCells] at h ⊢
  | cons x xs ih =>
    intro ys h
    cases ys with
    | nil => simp [sameCells] at h
    | cons y ys =>
      simp only [sameCells, Bool.and_eq_true] at h
      rw [sameCell_eq h.1, ih h.2]

theorem cells_inj {x y : Value} (h : x.cells.toList = y.cells.toList) (hx : ∀ c, x ≠ .agg c) (hy : ∀ c, y ≠ .agg c) : x = y := by
  have e : ∀ z : Value, (∀ c, z ≠ .agg c) → z.cells = #[z] := by
    intro z hz; cases z <;> first | rfl | exact absurd rfl (hz _)
  rw [e x hx, e y hy] at h
  simpa using h

theorem sameOne_eq {x y : Value} (h : sameOne x y = true) : x = y := by
  unfold sameOne at h
  split at h
  · rename_i xs ys; rw [Array.ext' (sameCells_eq h)]
  · simp only [Bool.and_eq_true, decide_eq_true_eq] at h
    obtain ⟨⟨rfl, h1⟩, h2⟩ := h
    rw [Array.ext' (sameCells_eq h1), Array.ext' (sameCells_eq h2)]
  · rename_i t x u y
    simp only [Bool.and_eq_true, decide_eq_true_eq] at h
    obtain ⟨⟨rfl, h1⟩, h2⟩ := h
    split at h2
    · rename_i a b
      have := sameCells_eq h1
      have e : a = b := Array.ext' this
      rw [e]
    · cases h2
    · cases h2
    · have hx : ∀ c, x ≠ .agg c := fun c e => by subst e; cases y <;> simp_all
      have hy : ∀ c, y ≠ .agg c := fun c e => by subst e; cases x <;> simp_all
      rw [cells_inj (sameCells_eq h1) hx hy]
  · exact sameCell_eq h

theorem sameVal_eq {x y : Value} (h : sameVal x y = true) : x = y := by
  unfold sameVal at h
  split at h
  · rename_i xs ys
    split at h
    · rename_i x a y b e1 e2
      simp only [Bool.and_eq_true, decide_eq_true_eq] at h
      obtain ⟨h1, rfl⟩ := h
      have := sameOne_eq h1
      subst this
      have : xs = ys := Array.ext' (e1.trans e2.symm)
      rw [this]
    · cases h
  · exact sameOne_eq h
end
end Go.AM
