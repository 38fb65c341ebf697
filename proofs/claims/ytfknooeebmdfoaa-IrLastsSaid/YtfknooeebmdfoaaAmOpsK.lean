/-
  THE ABSTRACT MACHINE, 14: each operation that is no call, as it was compiled, does in the model what the machine says.
-/
import Derived.Test.YtfknooeebmdfoaaAmOpsJ
set_option linter.unusedVariables false
set_option linter.unusedSimpArgs false
set_option linter.unnecessarySimpa false
namespace Go.AM

section
variable {P : Program} {g : Ghost} {st st' : St} {w : World} {ρ ρ' : Operand → Value} {o : Oper} {v : Value}

theorem bad_run (h : AOp.bad.run st ρ = .ok (v, st')) : False := by simp [AOp.bad, AOp.run] at h

theorem isNilConst_const {x : Operand} (h : isNilConst x = true) : ∃ c, x = .const c := by
  unfold isNilConst at h
  split at h
  · exact ⟨_, rfl⟩
  · cases h

theorem eq_sound {op : BinOp} {neg : Bool} {t t' : TypeId} {x y : Operand} (hop : op = .eql ∧ neg = false ∨ op = .neq ∧ neg = true) (ho : o.op = .binOp op t x y t') (hx : Rel g (ρ x) (ρ' x)) (hy : Rel g (ρ y) (ρ' y)) (hR : Rl P st.ro g st.get w.heap)
    (h : (compEq P neg op t x y).run st ρ = .ok (v, st')) : Did P g st w v st' ((execOp ρ' o).run P w) := by
  have hop' : op = .eql ∨ op = .neq := hop.imp And.left And.left
  unfold compEq at h
  split at h
  · exact did_bin ho hx hy hR h
  · exact did_bin ho hx hy hR h
  · rename_i hu; exact did_eq ho hop (key_bools hu hx hy) hR h
  · rename_i e hu; exact did_eq ho hop (key_nil hop' (k := .ptr) ⟨e, hu⟩ hx hy) hR h
  · rename_i e hu; exact did_eq ho hop (key_nil hop' (k := .slice) ⟨e, hu⟩ hx hy) hR h
  · rename_i a b hu; exact did_eq ho hop (key_nil hop' (k := .map) ⟨a, b, hu⟩ hx hy) hR h
  · rename_i a b c hu; exact did_eq ho hop (key_nil hop' (k := .func) ⟨a, b, c, hu⟩ hx hy) hR h
  · rename_i ms hu
    split at h
    · rename_i hc
      rw [Bool.or_eq_true] at hc
      exact did_eq ho hop (key_nil hop' (k := .iface) ⟨⟨ms, hu⟩, hc.imp isNilConst_const isNilConst_const⟩ hx hy) hR h
    · exact (bad_run h).elim
  · rename_i fs hu
    split at h
    · exact (bad_run h).elim
    · rename_i hg
      split at h
      · rename_i os hos
        rw [Bool.or_eq_true, not_or] at hg
        exact did_eq ho hop (key_fields hu (by simpa using hg.1) (by simpa using hg.2) hos hx hy) hR h
      · exact (bad_run h).elim
  · exact (bad_run h).elim

theorem bin_sound {op : BinOp} {t t' : TypeId} {x y : Operand} (ho : o.op = .binOp op t x y t') (hx : Rel g (ρ x) (ρ' x)) (hy : Rel g (ρ y) (ρ' y)) (hR : Rl P st.ro g st.get w.heap)
    (h : (compBin P op t x y).run st ρ = .ok (v, st')) : Did P g st w v st' ((execOp ρ' o).run P w) := by
  unfold compBin at h
  split at h
  · exact eq_sound (.inl ⟨rfl, rfl⟩) ho hx hy hR h
  · exact eq_sound (.inr ⟨rfl, rfl⟩) ho hx hy hR h
  · split at h
    · exact did_bin ho hx hy hR h
    · exact did_bin ho hx hy hR h
    · exact (bad_run h).elim

theorem conv_sound {s d : TypeId} {x : Operand} (ho : o.op = .convert s d x) (hx : Rel g (ρ x) (ρ' x)) (hR : Rl P st.ro g st.get w.heap) (hf : ∀ id, st.next ≤ id → id < st'.next → g id = none)
    (h : (compConv P s d x).run st ρ = .ok (v, st')) : Did P g st w v st' ((execOp ρ' o).run P w) := by
  unfold compConv at h
  split at h
  · rename_i k0 k hs hd; exact did_conv_int ho hs hd hx hR h
  · rename_i hs hd; exact did_conv_same ho hs hd hx hR h
  · rename_i e hs hd
    split at h
    · rename_i he; exact did_bytesOfStr ho hs hd he hx hR hf h
    · exact (bad_run h).elim
  · rename_i e hs hd
    split at h
    · rename_i he; exact did_strOfBytes ho hs hd he hx hR h
    · exact (bad_run h).elim
  · exact (bad_run h).elim

theorem builtin_sound {b : Builtin} {args : List Operand} {ts : List TypeId} {c : Call} (ho : o.op = .call c) (hc : c.callee = .builtin b) (ha : c.args.toList = args) (ht : c.argTypes.toList = ts)
    (hρ : ∀ x ∈ args, Rel g (ρ x) (ρ' x)) (hR : Rl P st.ro g st.get w.heap) (hf : ∀ id, st.next ≤ id → id < st'.next → g id = none) (hro : st.ro ≤ st.next)
    (h : (compBuiltin P b args ts).run st ρ = .ok (v, st')) : Did P g st w v st' ((execOp ρ' o).run P w) := by
  have hargs : c.args.map ρ' = (args.map ρ').toArray := Array.ext' (by simp [ha])
  have hts : c.argTypes = ts.toArray := Array.ext' (by simp [ht])
  unfold compBuiltin at h
  split at h
  · -- len
    rename_i x t
    have e0 : (execOp ρ' o).run P w = ((Builtin.len_ #[t] o.type #[ρ' x]).run P w).andThen fun v w => .ok (Next.value v) w := by
      simp [execOp, ho, resolve, hc, invoke, builtin, hargs, hts]
    have hx := hρ x (by simp)
    split at h
    · rename_i hu; exact did_len e0 (k := .str) hu hx hR h
    · rename_i e hu; exact did_len e0 (k := .slice) ⟨e, hu⟩ hx hR h
    · rename_i n e hu; exact did_len e0 (k := .const n) (.inl ⟨e, hu⟩) hx hR h
    · rename_i a hu
      split at h
      · rename_i n e ha'; exact did_len e0 (k := .const n) (.inr ⟨a, e, hu, ha'⟩) hx hR h
      · exact (bad_run h).elim
    · rename_i a b' hu; exact did_len e0 (k := .map) ⟨a, b', hu⟩ hx hR h
    · exact (bad_run h).elim
  · -- append
    rename_i x y t u
    have e0 : (execOp ρ' o).run P w = ((Builtin.append_ #[t, u] o.type #[ρ' x, ρ' y]).run P w).andThen fun v w => .ok (Next.value v) w := by
      simp [execOp, ho, resolve, hc, invoke, builtin, hargs, hts]
    have hx := hρ x (by simp)
    have hy := hρ y (by simp)
    have go : ∀ e d, P.underlying t = some (.slice e) → P.underlying u = some d → ((∃ x, d = .slice x) ∨ d = .string) → (match szOf P e, bytesOf P e, zeroOf P e with
      | some s, some b, some z => if b = 0 || z.cells.size != s then AOp.bad else .append s b x y
      | _, _, _ => .bad).run st ρ = .ok (v, st') → Did P g st w v st' ((execOp ρ' o).run P w) := by
      intro e d hu hu2 hd h
      split at h
      · rename_i s b' z hs hb hz
        split at h
        · exact (bad_run h).elim
        · rename_i hcond
          obtain ⟨h1, h2⟩ : ¬ b' = 0 ∧ z.cells.size = s := by simpa using hcond
          exact did_append e0 hu hu2 hd hs hb h1 hz h2 hx hy hR hf hro h
      · exact (bad_run h).elim
    split at h
    · rename_i e d hu hu2; exact go e _ hu hu2 (.inl ⟨_, rfl⟩) h
    · rename_i e hu hu2; exact go e _ hu hu2 (.inr rfl) h
    · exact (bad_run h).elim
  · -- copy
    rename_i x y t u
    have e0 : (execOp ρ' o).run P w = ((Builtin.copy_ #[t, u] o.type #[ρ' x, ρ' y]).run P w).andThen fun v w => .ok (Next.value v) w := by
      simp [execOp, ho, resolve, hc, invoke, builtin, hargs, hts]
    split at h
    · rename_i e hu
      split at h
      · rename_i s hs; exact did_copy e0 hu hs (hρ x (by simp)) (hρ y (by simp)) hR h
      · exact (bad_run h).elim
    · exact (bad_run h).elim
  · -- clear
    rename_i x t
    have e0 : (execOp ρ' o).run P w = ((Builtin.clear_ #[t] o.type #[ρ' x]).run P w).andThen fun v w => .ok (Next.value v) w := by
      simp [execOp, ho, resolve, hc, invoke, builtin, hargs, hts]
    split at h
    · rename_i e hu
      split at h
      · rename_i z hz; exact did_clear e0 hu hz (hρ x (by simp)) hR h
      · exact (bad_run h).elim
    · exact (bad_run h).elim
  · -- delete
    rename_i x k t rest
    split at h
    · rename_i kt e hu
      split at h
      · rename_i q hq
        have e0 : (execOp ρ' o).run P w = ((Builtin.delete_ #[t, kt] o.type #[ρ' x, ρ' k]).run P w).andThen fun v w => .ok (Next.value v) w := by
          have hd : Builtin.delete_ (t :: rest).toArray o.type #[ρ' x, ρ' k] = Builtin.delete_ #[t, kt] o.type #[ρ' x, ρ' k] := by
            have h0 : (t :: rest).toArray[0]? = (#[t, kt] : Array TypeId)[0]? := by simp
            unfold Builtin.delete_
            rw [h0]
          simp [execOp, ho, resolve, hc, invoke, builtin, hargs, hts, hd]
        exact did_delete e0 hu (keyType_fits hq) (hρ x (by simp)) (hρ k (by simp)) hR h
      · exact (bad_run h).elim
    · exact (bad_run h).elim
  · -- max
    rename_i x ys
    have e0 : (execOp ρ' o).run P w = (((ys.map ρ').foldlM (if true then Builtin.max2 else Builtin.min2) (ρ' x)).run P w).andThen fun v w => .ok (Next.value v) w := by
      simp [execOp, ho, resolve, hc, invoke, builtin, hargs, hts, Builtin.max_]
    exact did_minmax e0 (hρ x (by simp)) (fun y hy => hρ y (by simp [hy])) hR h
  · -- min
    rename_i x ys
    have e0 : (execOp ρ' o).run P w = (((ys.map ρ').foldlM (if false then Builtin.max2 else Builtin.min2) (ρ' x)).run P w).andThen fun v w => .ok (Next.value v) w := by
      simp [execOp, ho, resolve, hc, invoke, builtin, hargs, hts, Builtin.min_]
    exact did_minmax e0 (hρ x (by simp)) (fun y hy => hρ y (by simp [hy])) hR h
  · exact (bad_run h).elim

theorem op_sound (hρ : ∀ x ∈ o.op.operands.toList, Rel g (ρ x) (ρ' x)) (hR : Rl P st.ro g st.get w.heap) (hro : st.ro ≤ st.next) (hf : ∀ id, st.next ≤ id → id < st'.next → g id = none)
    (h : (compOp P o).run st ρ = .ok (v, st')) : Did P g st w v st' ((execOp ρ' o).run P w) := by
  unfold compOp at h
  split at h
  · rename_i x ho; exact did_mv (.inl ho) (hρ x (by simp [Op.operands, ho])) hR h
  · rename_i x ho; exact did_mv (.inr ho) (hρ x (by simp [Op.operands, ho])) hR h
  · rename_i c a b ho; exact did_pick ho (hρ c (by simp [Op.operands, ho])) (hρ a (by simp [Op.operands, ho])) (hρ b (by simp [Op.operands, ho])) hR h
  · rename_i e ho
    split at h
    · rename_i z hz; exact did_new ho hz hR hf h
    · exact (bad_run h).elim
  · rename_i e x ho; exact did_box ho (hρ x (by simp [Op.operands, ho])) hR hf h
  · rename_i t ps ho
    have hx : ∀ x ∈ ps.toList.map (·.2), Rel g (ρ x) (ρ' x) := fun x hx => hρ x (by simpa [Op.operands, ho] using hx)
    split at h
    · rename_i fs z hu hz
      split at h
      · rename_i places hpl
        split at h
        · rename_i l hl; exact did_build_struct ho hu hz hpl hl hx hR h
        · exact (bad_run h).elim
      · exact (bad_run h).elim
    · rename_i n e z hu hz
      split at h
      · rename_i s hs; exact did_build_array ho hu hz hs hx hR h
      · exact (bad_run h).elim
    · exact (bad_run h).elim
  · rename_i t n ps ho
    have hx : ∀ x ∈ ps.toList.map (·.2), Rel g (ρ x) (ρ' x) := fun x hx => hρ x (by simpa [Op.operands, ho] using hx)
    split at h
    · rename_i e hu
      split at h
      · rename_i s z hs hz
        split at h
        · rename_i hc
          obtain ⟨h1, h2⟩ : n * s ≤ 2 ^ 24 ∧ z.cells.size = s := by simpa using hc
          exact did_lit ho hu hs hz h2 h1 hx hR hf h
        · exact (bad_run h).elim
      · exact (bad_run h).elim
    · exact (bad_run h).elim
  · rename_i t a ho
    split at h
    · rename_i n hn; exact did_load ho hn (hρ a (by simp [Op.operands, ho])) hR h
    · exact (bad_run h).elim
  · rename_i t a x ho
    split at h
    · rename_i n hn; exact did_store ho hn (hρ a (by simp [Op.operands, ho])) (hρ x (by simp [Op.operands, ho])) hR h
    · exact (bad_run h).elim
  · rename_i x ho; exact did_nilc ho (hρ x (by simp [Op.operands, ho])) hR h
  · rename_i op t x y t' ho; exact bin_sound ho (hρ x (by simp [Op.operands, ho])) (hρ y (by simp [Op.operands, ho])) hR h
  · rename_i op t x ho; exact did_un ho (hρ x (by simp [Op.operands, ho])) hR h
  · rename_i s d x ho; exact conv_sound ho (hρ x (by simp [Op.operands, ho])) hR hf h
  · rename_i t x ho
    split at h
    · exact (bad_run h).elim
    · rename_i d hd hu; exact did_iface ho hu (fun ms e => hd ms e) (hρ x (by simp [Op.operands, ho])) hR h
    · exact (bad_run h).elim
  · rename_i f a b ho
    exact did_fn ho (fun x hx => hρ x (by simp [Op.operands, ho]; exact .inl (by simpa using hx))) (fun x hx => hρ x (by simp [Op.operands, ho]; exact .inr (by simpa using hx))) hR h
  · rename_i t ho; exact did_newMap ho hR hf h
  · rename_i t l c ho
    split at h
    · rename_i e hu
      split at h
      · rename_i s b z hs hb hz
        split at h
        · rename_i hzs; exact did_make ho hu hs hb hz hzs (hρ l (by simp [Op.operands, ho])) (hρ c (by simp [Op.operands, ho])) hR hf h
        · exact (bad_run h).elim
      · exact (bad_run h).elim
    · exact (bad_run h).elim
  · rename_i t x lo hi mx ho
    have hx := hρ x (by simp [Op.operands, ho])
    have hl : ∀ x, lo = some x → Rel g (ρ x) (ρ' x) := fun y hy => hρ y (by simp [Op.operands, ho, hy])
    have hh : ∀ x, hi = some x → Rel g (ρ x) (ρ' x) := fun y hy => hρ y (by simp [Op.operands, ho, hy])
    have hm : ∀ x, mx = some x → Rel g (ρ x) (ρ' x) := fun y hy => hρ y (by simp [Op.operands, ho, hy])
    split at h
    · rename_i hu; exact did_slice_str ho hu hx hl hh hR h
    · rename_i e hu
      split at h
      · rename_i s hs; exact did_slice_slice ho hu hs hx hl hh hm hR h
      · exact (bad_run h).elim
    · rename_i n e hu
      split at h
      · rename_i s hs; exact did_slice_arr ho (.inl hu) hs hx hl hh hR h
      · exact (bad_run h).elim
    · rename_i a hu
      split at h
      · rename_i n e ha
        split at h
        · rename_i s hs; exact did_slice_arr ho (.inr ⟨a, hu, ha⟩) hs hx hl hh hR h
        · exact (bad_run h).elim
      · exact (bad_run h).elim
    · exact (bad_run h).elim
  · rename_i t x f ho
    split at h
    · rename_i fs hu
      split at h
      · rename_i fl hfl
        split at h
        · rename_i n hs; exact did_off ho hu hfl hs (hρ x (by simp [Op.operands, ho])) hR h
        · exact (bad_run h).elim
      · exact (bad_run h).elim
    · exact (bad_run h).elim
  · rename_i t x f ho
    split at h
    · rename_i fs hu
      split at h
      · rename_i fl hfl
        split at h
        · rename_i n hs; exact did_field ho hu hfl hs (hρ x (by simp [Op.operands, ho])) hR h
        · exact (bad_run h).elim
      · exact (bad_run h).elim
    · exact (bad_run h).elim
  · rename_i t x i ho
    split at h
    · rename_i e hu
      split at h
      · rename_i s hs; exact did_ixA_slice ho hu hs (hρ x (by simp [Op.operands, ho])) (hρ i (by simp [Op.operands, ho])) hR h
      · exact (bad_run h).elim
    · rename_i n e hu
      split at h
      · rename_i s hs; exact did_ixA_arr ho hu hs (hρ x (by simp [Op.operands, ho])) (hρ i (by simp [Op.operands, ho])) hR h
      · exact (bad_run h).elim
    · exact (bad_run h).elim
  · rename_i t x i ho
    split at h
    · rename_i hu; exact did_ixS ho hu (hρ x (by simp [Op.operands, ho])) (hρ i (by simp [Op.operands, ho])) hR h
    · rename_i n e hu
      split at h
      · rename_i s m hs hm; exact did_ixV ho hu hs hm (hρ x (by simp [Op.operands, ho])) (hρ i (by simp [Op.operands, ho])) hR h
      · exact (bad_run h).elim
    · exact (bad_run h).elim
  · rename_i t x k ok ho
    split at h
    · rename_i kt e hu
      split at h
      · rename_i z q hz hq; exact did_look ho hu hz (keyType_fits hq) (hρ x (by simp [Op.operands, ho])) (hρ k (by simp [Op.operands, ho])) hR h
      · exact (bad_run h).elim
    · exact (bad_run h).elim
  · rename_i t m k x ho
    split at h
    · rename_i kt e hu
      split at h
      · rename_i q hq; exact did_mapSet (.inl ho) hu (keyType_fits hq) (hρ m (by simp [Op.operands, ho])) (hρ k (by simp [Op.operands, ho])) (hρ x (by simp [Op.operands, ho])) hR h
      · exact (bad_run h).elim
    · exact (bad_run h).elim
  · rename_i t m k x ho
    split at h
    · rename_i kt e hu
      split at h
      · rename_i q hq; exact did_mapSet (.inr ho) hu (keyType_fits hq) (hρ m (by simp [Op.operands, ho])) (hρ k (by simp [Op.operands, ho])) (hρ x (by simp [Op.operands, ho])) hR h
      · exact (bad_run h).elim
    · exact (bad_run h).elim
  · rename_i t x ho
    split at h
    · rename_i hu; exact did_rangeStr ho hu (hρ x (by simp [Op.operands, ho])) hR hf h
    · exact (bad_run h).elim
  · rename_i it ho; exact did_nextStr ho (hρ it (by simp [Op.operands, ho])) hR h
  · rename_i x xt t ok ho
    split at h
    · exact (bad_run h).elim
    · rename_i d hd hu
      split at h
      · rename_i z hz; exact did_assert ho hu (fun ms e => hd ms e) hz (hρ x (by simp [Op.operands, ho])) hR h
      · exact (bad_run h).elim
    · exact (bad_run h).elim
  · rename_i x i ho; exact did_extract ho (hρ x (by simp [Op.operands, ho])) hR h
  · rename_i c ho
    split at h
    · rename_i b hc
      exact builtin_sound ho hc rfl rfl (fun x hx => hρ x (by simp [Op.operands, ho, Call.operands, hc]; simpa using hx)) hR hf hro h
    · simp [AOp.run] at h
    · exact (bad_run h).elim
  · exact (bad_run h).elim
end
end Go.AM
