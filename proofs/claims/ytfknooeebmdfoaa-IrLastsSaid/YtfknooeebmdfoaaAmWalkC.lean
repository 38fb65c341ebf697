/-
  THE ABSTRACT MACHINE, 18: functions and rounds: what the machine says the model does, as long as regions whose order is open do so.
-/
import Derived.Test.YtfknooeebmdfoaaAmWalkB
set_option linter.unusedVariables false
set_option linter.unusedSimpArgs false
set_option linter.unnecessarySimpa false
namespace Go.AM

section
variable {P : Program} {K : Ctx} {n hi : Nat}

/-! ### Results -/

theorem result_cell {st st' : St} {g : Ghost} {w : World} {ρ : Operand → Value} {x : Operand} {u v : Value} {t : TypeId} {k : Option Nat} (hn : aggOf P t = some k) (ha : Rel g (ρ x) u) (hR : Rl P st.ro g st.get w.heap)
    (h : (AOp.load k x).run st ρ = .ok (v, st')) : ∃ v', ((asAddr u).run P w).andThen (fun a w => (loadVar t a).run P w) = .ok v' w ∧ Rel g v v' := by
  simp only [AOp.run, Res.bind_eq_ok] at h
  obtain ⟨⟨b, of⟩, hp, h⟩ := h
  obtain ⟨G, hG, he⟩ := ha.asPtr hp
  cases k with
  | none =>
    simp only [Res.bind_eq_ok, St.load1, Res.of_eq_ok, Res.pure_eq] at h
    obtain ⟨u, ⟨xs, hxs, hu⟩, h⟩ := h
    cases h
    obtain ⟨G', hG', hok, _⟩ := hR.cells hxs
    rw [hG] at hG'; cases hG'
    obtain ⟨v', hc, hrel⟩ := cell_at (w := w) hok hu rfl
    exact ⟨v', by simp [he, asAddr, loadVar, run_aggOf_one hn, hc], hrel⟩
  | some k =>
    simp only [Res.bind_eq_ok, Res.pure_eq] at h
    obtain ⟨l, hl, h⟩ := h
    cases h
    obtain ⟨xs, hxs, hle, rfl⟩ := loadN_ok hl
    obtain ⟨G', hG', hok, _⟩ := hR.cells hxs
    rw [hG] at hG'; cases hG'
    obtain ⟨l', hl', hrel, hc⟩ := cells_at (w := w) hok hle
    obtain ⟨e1, e2⟩ := run_aggOf_some (w := w) hn
    have e3 := run_loadCells_list (P := P) w _ l' hc
    rw [hl'] at e3
    exact ⟨.agg l'.toArray, by simp [he, asAddr, loadVar, e1, e2, e3], .agg_of hrel⟩

def resultOf (tmps : Array Value) : ResultVar → Sem Value
  | .tmp t => pure (tmps.getD t undef)
  | .cell a t => do loadVar t (← asAddr (tmps.getD a undef))

theorem results_list {st : St} {g : Ghost} {w : World} {e : Env} {tmps : Array Value} (hI : Inv0 P hi st g w) (he : EnvRel g e tmps) : ∀ (l : List ResultVar) (rs : List ARes) (vs : List Value),
    compRes P l = some rs → resultsC e st rs = .ok vs → ∃ vs', (l.mapM (resultOf tmps)).run P w = .ok vs' w ∧ RelL g vs vs' := by
  intro l
  induction l with
  | nil =>
    intro rs vs hc h
    simp [compRes] at hc
    subst hc
    simp [resultsC] at h
    subst h
    exact ⟨[], by simp, .nil g⟩
  | cons r l ih =>
    intro rs vs hc h
    cases r with
    | tmp t =>
      simp only [compRes, Option.map_eq_some_iff] at hc
      obtain ⟨rs', hc, rfl⟩ := hc
      simp only [resultsC, Res.bind_eq_ok, Res.pure_eq] at h
      obtain ⟨vs0, h0, h⟩ := h
      cases h
      obtain ⟨vs', hr, hrel⟩ := ih _ _ hc h0
      exact ⟨tmps.getD t undef :: vs', by simp [List.mapM_cons, resultOf, hr], .cons (he t) hrel⟩
    | cell a ty =>
      simp only [compRes] at hc
      split at hc
      · rename_i k hk
        simp only [Option.map_eq_some_iff] at hc
        obtain ⟨rs', hc, rfl⟩ := hc
        simp only [resultsC, Res.bind_eq_ok, Res.pure_eq] at h
        obtain ⟨⟨v, st1⟩, h1, vs0, h0, h⟩ := h
        cases h
        obtain ⟨vs', hr, hrel⟩ := ih _ _ hc h0
        obtain ⟨v', hv, hvr⟩ := result_cell hk (u := tmps.getD a undef) (he a) hI.rl h1
        refine ⟨v' :: vs', ?_, .cons hvr hrel⟩
        have hv2 : (resultOf tmps (.cell a ty)).run P w = .ok v' w := by
          rw [← hv]
          simp only [resultOf, Sem.run_bind]
        simp [List.mapM_cons, hv2, hr]
      · cases hc

theorem results_ok {st : St} {g : Ghost} {w : World} {e : Env} {tmps : Array Value} {fn : Func} {rs : List ARes} {vs : List Value} (hI : Inv0 P hi st g w) (he : EnvRel g e tmps) (hc : compRes P fn.results.toList = some rs) (h : resultsC e st rs = .ok vs) :
    ∃ v', (results fn tmps).run P w = .ok v' w ∧ Rel g (oneOf vs) v' := by
  obtain ⟨vs', hr, hrel⟩ := results_list hI he _ _ _ hc h
  refine ⟨if h : vs'.toArray.size = 1 then vs'.toArray[0] else .tuple vs'.toArray, ?_, ?_⟩
  · have hf : results fn tmps = (do let vs ← fn.results.mapM (resultOf tmps); pure (if h : vs.size = 1 then vs[0] else .tuple vs)) := by
      unfold results
      congr 1
    rw [hf, Array.mapM_eq_mapM_toList]
    simp [hr]
  · unfold oneOf
    split
    · rename_i v
      obtain ⟨v', rfl⟩ : ∃ v', vs' = [v'] := by
        have := hrel.1
        cases vs' with
        | nil => simp at this
        | cons x l => cases l with
          | nil => exact ⟨x, rfl⟩
          | cons y l => simp at this
      simpa using hrel.2 0 v v' rfl rfl
    · rename_i hne
      have : ¬ vs'.toArray.size = 1 := by
        intro h1
        have h2 : vs.length = 1 := by rw [hrel.1]; simpa using h1
        cases vs with
        | nil => simp at h2
        | cons x l => cases l with
          | nil => exact hne x rfl
          | cons y l => simp at h2
      rw [dif_neg this]
      exact .tuple_of hrel

/-! ### The way out -/

theorem leaves_ok {m : Nat} {st0 st : St} {g0 g : Ghost} {w0 : World} {e : Env} {tmps : Array Value} {fn : Func} {rs : List ARes} {vs : List Value} (h0 : Inv0 P hi st0 g0 w0) (he : EnvRel g e tmps) (hc : compRes P fn.results.toList = some rs) (hres : resultsC e st rs = .ok vs)
    (hle : StLe st0 st) :
    ∀ (ds : List Deferred) (w : World), Step P st0.ro g0 st0.get w0 g st.get w st0.next st.next → Marks w0.heap.size ds w → LeavesInM Fence.wide m P fn tmps (Ends P st0 g0 w0 (oneOf vs) st) ds .returning w := by
  intro ds
  induction ds with
  | nil =>
    intro w hs hm
    obtain ⟨v', hr, hrel⟩ := results_ok (To.inv0 ⟨hle, hs⟩ h0) he hc hres
    exact ⟨v', hr, g, hrel, hle, hs⟩
  | cons d ds ih =>
    intro w hs hm
    obtain ⟨rs', h1, h2, h3⟩ := hm
    cases rs' with
    | nil => simp at h1
    | cons r rs' =>
      simp only [List.map_cons, List.cons.injEq] at h1
      obtain ⟨hb, hr⟩ := h3 r (by simp)
      refine ⟨by simp, .inl ⟨r, { w with heap := w.heap.setIfInBounds r (.deferred none) }, h1.1, ?_, ?_⟩⟩
      · simp [Instr.takeDeferred, run_getDef hr, run_setDef _ hr]
      · refine ih _ (hs.shut hr hb _) ⟨rs', h1.2, (List.nodup_cons.1 h2).2, fun q hq => ⟨(h3 q (by simp [hq])).1, ?_⟩⟩
        have hne : r ≠ q := fun e => (List.nodup_cons.1 h2).1 (e ▸ hq)
        show (w.heap.setIfInBounds r _)[q]? = _
        rw [Array.getElem?_setIfInBounds_ne hne]
        exact (h3 q (by simp [hq])).2

/-! ### Arguments -/

theorem putL_at : ∀ (ts : List Tmp) (vs : List Value) (e : Env) (t : Tmp), t ∉ ts → (putL e ts vs).at t = e.at t := by
  intro ts
  induction ts with
  | nil => intro vs e t h; cases vs <;> rfl
  | cons x ts ih =>
    intro vs e t h
    cases vs with
    | nil => rfl
    | cons v vs =>
      simp only [putL]
      rw [ih _ _ _ (fun h' => h (List.mem_cons_of_mem _ h'))]
      rw [Env.at_set_ne _ _ (fun e => h (by simp [e]))]

theorem putL_rel {g : Ghost} : ∀ (ts : List Tmp) (vs vs' : List Value) (e : Env) (tmps : Array Value), EnvRel g e tmps → RelL g vs vs' → (∀ t ∈ ts, t < tmps.size) →
    EnvRel g (putL e ts vs) ((ts.zip vs').foldl (fun tmps (t, a) => tmps.setIfInBounds t a) tmps) ∧ ((ts.zip vs').foldl (fun tmps (t, a) => tmps.setIfInBounds t a) tmps).size = tmps.size := by
  intro ts
  induction ts with
  | nil => intro vs vs' e tmps he _ _; cases vs <;> exact ⟨he, rfl⟩
  | cons t ts ih =>
    intro vs vs' e tmps he hr hb
    cases vs with
    | nil =>
      cases vs' with
      | nil => exact ⟨he, rfl⟩
      | cons v' vs' => have := hr.1; simp at this
    | cons v vs =>
      cases vs' with
      | nil => have := hr.1; simp at this
      | cons v' vs' =>
        have hv : Rel g v v' := hr.2 0 v v' rfl rfl
        have hvs : RelL g vs vs' := ⟨by simpa using hr.1, fun i u u' hu hu' => hr.2 (i + 1) u u' (by simpa using hu) (by simpa using hu')⟩
        have he' : EnvRel g (Env.set e t v) (tmps.setIfInBounds t v') := put_rel (a := ⟨tmps, []⟩) (d := some t) he rfl (by simp [dstOk]; exact hb t (by simp)) hv
        obtain ⟨k1, k2⟩ := ih vs vs' (Env.set e t v) (tmps.setIfInBounds t v') he' hvs (fun x hx => by simpa using hb x (by simp [hx]))
        exact ⟨k1, k2.trans (by simp)⟩

theorem start_rel {g : Ghost} {args args' : List Value} {k : Nat} (h : RelL g args args') (hk : args.length ≤ k) :
    EnvRel g (start args) (args'.toArray ++ Array.replicate (k - args'.toArray.size) undef) := by
  have key : ∀ (l l' : List Value) (s : Nat) (e : Env), RelL g l l' → ∀ t, (∀ i v, l[i]? = some v → t = s + i → (putL e ((List.range' s l.length)) l).at t = v) := by
    intro l
    induction l with
    | nil => intro l' s e _ t i v hv; simp at hv
    | cons x l ih =>
      intro l' s e hr t i v hv ht
      simp only [List.length_cons, List.range'_succ, putL]
      cases i with
      | zero =>
        simp at hv
        subst hv
        rw [putL_at]
        · simp [ht]
        · simp [List.mem_range'_1]; omega
      | succ i =>
        cases l' with
        | nil => have := hr.1; simp at this
        | cons x' l' =>
          exact ih l' (s + 1) (Env.set e s x) ⟨by simpa using hr.1, fun j u u' hu hu' => hr.2 (j + 1) u u' (by simpa using hu) (by simpa using hu')⟩ t i v (by simpa using hv) (by rw [ht]; simp only [Nat.add_assoc, Nat.add_comm 1])
  intro t
  unfold start
  rw [List.range_eq_range']
  by_cases ht : t < args.length
  · rw [key args args' 0 [] h t t args[t] (by simp [ht]) (by simp)]
    have ht' : t < args'.length := h.1 ▸ ht
    have := h.2 t args[t] args'[t] (by simp [ht]) (by simp [ht'])
    simpa [Array.getElem?_append, ht'] using this
  · rw [putL_at _ _ _ _ (fun hm => ht (by simpa [List.mem_range'_1] using hm))]
    exact .nothing _

/-! ### Functions and rounds -/

theorem call_ok {k : Nat} (hK : Goes P (ctxOf (runT (funs P) k) k)) (hD : DrawOk P (ctxOf (runT (funs P) k) k)) {f : FuncId} {args args' : List Value} {st st' : St} {v : Value} {g : Ghost} {w : World}
    (h : runT (funs P) (k + 1) (.call f args) st = .ok (v, st')) (hI : Inv0 P st'.next st g w) (hargs : RelL g args args') :
    Known P f ∧ ∀ m, CallsIn Fence.wide m P f args'.toArray w (Ends P st g w v st') := by
  simp only [runT, Res.bind_eq_ok, Res.of_eq_ok, Res.need_eq_ok, decide_eq_true_eq] at h
  obtain ⟨af, haf, _, hlen, ⟨x, e, st1⟩, h1, h⟩ := h
  unfold funs at haf
  cases hfn : P.funcs[f]? with
  | none => simp [hfn] at haf
  | some fn =>
    simp only [hfn, Option.bind_some] at haf
    unfold compFun at haf
    split at haf
    · rename_i c rs hc hrs
      split at haf
      · cases haf
      · rename_i hname
        cases haf
        have hknown : Known P f := ⟨fn, hfn, by simp [hc], hname⟩
        refine ⟨hknown, fun m => callsIn_of_wp_marks hfn hc trivial ?_ rfl⟩
        have hst1 : st1.next ≤ st'.next := by
          cases x with
          | exit id => cases h
          | normal => simp only [Res.bind_eq_ok, Res.pure_eq] at h; obtain ⟨_, _, h⟩ := h; cases h; exact Nat.le_refl _
          | ret => simp only [Res.bind_eq_ok, Res.pure_eq] at h; obtain ⟨_, _, h⟩ := h; cases h; exact Nat.le_refl _
        have hIv : Inv P st'.next none fn.ntmps w.heap.size (start args) st g { tmps := args'.toArray ++ Array.replicate (fn.ntmps - args'.toArray.size) undef, defers := [] } w :=
          { base := hI
            env := start_rel hargs hlen
            size := by have := hargs.1; have hl : args.length ≤ fn.ntmps := hlen; simp; omega
            around := fun l hl => by cases hl
            low := Nat.le_refl _
            marks := ⟨[], rfl, List.nodup_nil, fun r hr => by cases hr⟩ }
        refine code_wp (fr := none) hK hD (compL_impl P fn.ntmps c _ _ _) hst1 h1 hIv fun a' w' g' hI' hto => ?_
        cases x with
        | exit id => cases h
        | normal =>
          simp only [Res.bind_eq_ok, Res.pure_eq] at h
          obtain ⟨vs, hvs, h⟩ := h
          cases h
          exact leaves_ok hI hI'.env hrs hvs hto.le _ _ hto.step hI'.marks
        | ret =>
          simp only [Res.bind_eq_ok, Res.pure_eq] at h
          obtain ⟨vs, hvs, h⟩ := h
          cases h
          exact leaves_ok hI hI'.env hrs hvs hto.le _ _ hto.step hI'.marks
    · cases haf

theorem round_ok {k : Nat} (hK : Goes P (ctxOf (runT (funs P) k) k)) (hD : DrawOk P (ctxOf (runT (funs P) k) k)) {l : Nat} {args args' : List Value} {st st' : St} {v : Value} {g : Ghost} {w : World} {G : Gh}
    (h : runT (funs P) (k + 1) (.round l args) st = .ok (v, st')) (hI : Inv0 P st'.next st g w) (hargs : RelL g args args') (hG : g l = some G) :
    ∃ f tmps assign body, (Instr.yield G.blk args'.toArray).run P w = .ok (.round G.blk f tmps assign body) w ∧ ∀ m, RoundIn Fence.wide m P G.blk f tmps assign body w (Ends P st g w v st') := by
  have hle := runT_le (funs P) _ _ _ _ _ h
  simp only [runT] at h
  split at h
  · rename_i e ps as bd s0 pd hget
    simp only [Res.bind_eq_ok, Res.need_eq_ok, decide_eq_true_eq] at h
    obtain ⟨_, hlen, _, hro, ⟨x, e1, st1⟩, h1, h⟩ := h
    obtain ⟨G', hG', r, hr, hst, hpend, henv, hps, hpt, has, hbd⟩ := hI.rl.obj l _ hget rfl
    rw [hG] at hG'; cases hG'
    have hlt : l < st.next := hI.top l _ hget rfl
    obtain ⟨p1, p2⟩ := putL_rel ps args args' e r.tmps henv hargs hpt
    have hfold : (r.params.zip args'.toArray).foldl (fun tmps (t, a) => tmps.setIfInBounds t a) r.tmps = (ps.zip args').foldl (fun tmps (t, a) => tmps.setIfInBounds t a) r.tmps := by
      rw [← Array.foldl_toList, Array.toList_zip, hps]
    refine ⟨r.fn, (ps.zip args').foldl (fun tmps (t, a) => tmps.setIfInBounds t a) r.tmps, r.assign, r.body, ?_, fun m => ?_⟩
    · have hsz : ¬ args'.toArray.size ≠ r.params.size := by
        have e1 := hargs.1
        have e2 : r.params.size = ps.length := by rw [← hps]; simp
        simp; omega
      unfold Instr.yield
      simp only [Sem.run_bind, run_getLoop hr, Result.andThen_ok]
      rw [if_neg hsz, ← hfold]
      rfl
    · have hIv : Inv P st'.next (some G.blk) r.tmps.size 0 (putL e ps args) st g { tmps := (ps.zip args').foldl (fun tmps (t, a) => tmps.setIfInBounds t a) r.tmps, defers := [] } w :=
        { base := hI
          env := p1
          size := p2
          around := fun lb hlb => by cases hlb; exact ⟨l, G, hlt, by rw [hget]; rfl, hG, rfl⟩
          low := Nat.zero_le _
          marks := ⟨[], rfl, List.nodup_nil, fun r hr => by cases hr⟩ }
      refine roundIn_of_wpIn trivial ?_
      have hst1 : st1.next ≤ st'.next := by
        simp only at h
        split at h
        · simp only [Res.bind_eq_ok] at h
          obtain ⟨⟨y, e3, st3⟩, h2, h⟩ := h
          have hn := (codeC_le hK.le _ _ _ _ _ _ h2).next
          simp only at h
          split at h
          · cases y <;> (cases h; exact hn)
          · cases h
        · cases h
      refine code_wp (fr := some G.blk) hK hD has hst1 h1 hIv fun a1 w1 g1 hI1 hto => ?_
      simp only at h
      split at h
      · rename_i x0 o0 e2 ps2 as2 bd2 pd2 hget1
        simp only [Res.bind_eq_ok] at h
        obtain ⟨⟨y, e3, st3⟩, h2, h⟩ := h
        have hG1 : g1 l = some G := hto.step.ext _ _ hG
        obtain ⟨G', hG', r1, hr1, hst1, hpend1, henv1, hps1, hpt1, has1, hbd1⟩ := hI1.base.rl.obj l _ hget1 rfl
        rw [hG1] at hG'; cases hG'
        have hro1 : st1.ro = st.ro := hto.le.ro
        have hlt1 := (Array.getElem?_eq_some_iff.1 hr1).1
        show ∃ w₂, _
        refine ⟨{ w1 with heap := w1.heap.setIfInBounds G.blk (.loop { r1 with state := .busy }) }, ?_, ?_⟩
        · unfold Instr.beginRound
          simp only [Sem.run_bind, run_getLoop hr1, Result.andThen_ok, run_setLoop _ hr1, hst1]
          rfl
        · have sput : ∀ {g1 : Ghost} {w1 : World} {st1 : St} {e2 : Env} {ps2 : List Tmp} {as2 bd2 : ACode} {s2 : LoopState} {pd2 : AExit} {r1 : Loop}, Rl P st.ro g1 st1.get w1.heap → st1.get l = some (.loop e2 ps2 as2 bd2 s2 pd2) → g1 l = some G → w1.heap[G.blk]? = some (.loop r1) →
              ∀ (s' : LoopState) (pd' : AExit) (pc : Option Code), pendRel pd' pc → EnvRel g1 e2 r1.tmps → r1.params.toList = ps2 → (∀ t ∈ ps2, t < r1.tmps.size) → Impl P r1.tmps.size r1.assign as2 → Impl P r1.tmps.size r1.body bd2 →
              ∀ lo hi, Step P st.ro g1 st1.get w1 g1 (st1.put l (.loop e2 ps2 as2 bd2 s' pd')).get { w1 with heap := w1.heap.setIfInBounds G.blk (.loop { r1 with state := s', pending := pc }) } lo hi := by
            intro g1 w1 st1 e2 ps2 as2 bd2 s2 pd2 r1 hrl hget1 hG1 hr1 s' pd' pc hp k1 k2 k3 k4 k5 lo hi
            have hlt1 := (Array.getElem?_eq_some_iff.1 hr1).1
            rw [St.get_put]
            refine Step.change (o := .loop e2 ps2 as2 bd2 s2 pd2) (o' := .loop e2 ps2 as2 bd2 s' pd') (w' := { w1 with heap := w1.heap.setIfInBounds G.blk (.loop { r1 with state := s', pending := pc }) }) hrl hget1 rfl hro hG1 (by simp) (fun B hB => ?_) rfl rfl rfl (fun _ => ?_) _ _
            · exact Array.getElem?_setIfInBounds_ne (Ne.symm hB)
            · exact ⟨{ r1 with state := s', pending := pc }, by simp [Array.getElem?_setIfInBounds, hlt1], rfl, hp, k1, k2, k3, k4, k5⟩
          have hrl1 : Rl P st.ro g1 st1.get w1.heap := hto.step.rl
          have s2 := sput hrl1 hget1 hG1 hr1 .busy pd2 r1.pending hpend1 henv1 hps1 hpt1 has1 hbd1 st1.next st1.next
          have hto2 : To P st1 g1 w1 (st1.put l (.loop e2 ps2 as2 bd2 .busy pd2)) g1 { w1 with heap := w1.heap.setIfInBounds G.blk (.loop { r1 with state := .busy }) } := ⟨.putLoop rfl hget1 rfl, by rw [hro1]; exact s2⟩
          have hI2 := hI1.to hto2 hI1.env rfl rfl
          have hst3 : st3.next ≤ st'.next := by
            simp only at h
            split at h
            · cases y <;> (cases h; exact Nat.le_refl _)
            · cases h
          refine code_wp (fr := some G.blk) hK hD hbd hst3 h2 hI2 fun a3 w3 g3 hI3 hto3 => ?_
          have hto13 := (hto.trans hto2).trans hto3
          simp only at h
          split at h
          · rename_i o3 e4 ps4 as4 bd4 s4 pd4 hget3
            have hG3 : g3 l = some G := hto13.step.ext _ _ hG
            have hrl3 : Rl P st.ro g3 st3.get w3.heap := hto13.step.rl
            obtain ⟨G', hG', r3, hr3, hst3, hpend3, henv3, hps3, hpt3, has3, hbd3⟩ := hrl3.obj l _ hget3 rfl
            rw [hG3] at hG'; cases hG'
            have fin : ∀ (j : Option Code) (y : AExit) (s5 : LoopState), pendRel y j → s5 = (if j.isNone then .ready else .done) → st' = st3.put l (.loop e4 ps4 as4 bd4 s5 y) → v = .bool j.isNone →
                ∃ v4 w4, (Instr.endRound G.blk j).run P w3 = .ok v4 w4 ∧ Ends P st g w v st' (.returned v4) w4 := by
              intro j y s5 hp hs5 hst' hv
              have s5' := sput hrl3 hget3 hG3 hr3 s5 y j hp henv3 hps3 hpt3 has3 hbd3 st3.next st3.next
              refine ⟨.bool j.isNone, { w3 with heap := w3.heap.setIfInBounds G.blk (.loop { r3 with state := s5, pending := j }) }, ?_, g3, by rw [hv]; exact .flat rfl, hle, ?_⟩
              · unfold Instr.endRound
                simp only [Sem.run_bind, run_getLoop hr3, Result.andThen_ok, run_setLoop _ hr3, hs5]
                rfl
              · subst hst'
                exact hto13.step.trans s5' hto13.le.next (Nat.le_refl _)
            cases y with
            | normal => cases h; exact fin none .normal .ready rfl rfl rfl rfl
            | exit id => cases h; exact fin (some (.exit id)) (.exit id) .done rfl rfl rfl rfl
            | ret => cases h; exact fin (some .ret) .ret .done rfl rfl rfl rfl
          · cases h
      · cases h
  · cases h

theorem goes (hD : ∀ n, Goes P (ctxOf (runT (funs P) n) n) → DrawOk P (ctxOf (runT (funs P) n) n)) : ∀ n, Goes P (ctxOf (runT (funs P) n) n) := by
  intro n
  induction n with
  | zero => exact ⟨⟨fun t st v st' h => runT_le _ _ _ _ _ _ h, fun f e st r h => ⟨_, h⟩⟩, fun h => by simp [ctxOf, runT] at h, fun h => by simp [ctxOf, runT] at h⟩
  | succ n ih => exact ⟨⟨fun t st v st' h => runT_le _ _ _ _ _ _ h, fun f e st r h => ⟨_, h⟩⟩, fun h _ _ _ hI ha => call_ok ih (hD n ih) h hI ha, fun h _ _ _ _ hI ha hG => round_ok ih (hD n ih) h hI ha hG⟩
end
end Go.AM
