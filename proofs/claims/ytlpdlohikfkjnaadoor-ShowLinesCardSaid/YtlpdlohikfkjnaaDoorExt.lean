/-
  THE ABSTRACT MACHINE, 43: laws whose code reads variables through functions that their contracts tell.
-/
import Derived.Test.YtlpdlohikfkjnaaDoorAmC
import Derived.Lib.LaidTab
set_option linter.unusedVariables false
set_option linter.unusedSectionVars false
namespace Go.AM
open Go.RowKit Go.ChangeShapes
def VarIs (W : World) (p : Nat × AObj) : Prop :=
 match p.2 with
 | .table zs => ∃ T fz, W.heap[p.1]? = some (.cells (zs.map fun z => Value.int .u64 z).toArray T fz)
 | .errv => ∃ te pe T fz, W.heap[p.1]? = some (.cells #[.iface te pe] T fz)
 | .cells xs => (∀ v ∈ xs, flat v = true) ∧ ∃ T fz, W.heap[p.1]? = some (.cells xs.toArray T fz)
 | _ => False
def heapOf : List (Nat × AObj) → Tr AObj
 | [] => .nil
 | (i, o) :: l => (heapOf l).set i o
theorem heapOf_mem : ∀ {l : List (Nat × AObj)} {i : Nat} {o : AObj}, (heapOf l).get i = some o → (i, o) ∈ l := by
 intro l
 induction l with
 | nil => intro i o h; simp [heapOf] at h
 | cons p l ih =>
   intro i o h
   obtain ⟨j, x⟩ := p
   simp only [heapOf, Tr.get_set] at h
   split at h
   ·rename_i e
    cases h
    subst e
    exact List.mem_cons_self ..
   ·exact List.mem_cons_of_mem _ (ih h)
theorem heapOf_get : ∀ {l : List (Nat × AObj)}, (l.map (·.1)).Nodup → ∀ p ∈ l, (heapOf l).get p.1 = some p.2 := by
 intro l
 induction l with
 | nil => intro _ p hp; cases hp
 | cons q l ih =>
   intro hn p hp
   obtain ⟨j, x⟩ := q
   rw [List.map_cons, List.nodup_cons] at hn
   simp only [heapOf, Tr.get_set]
   rcases List.mem_cons.1 hp with rfl | hp
   ·rw [if_pos rfl]
   ·rw [if_neg (fun e => hn.1 (List.mem_map.2 ⟨p, hp, e⟩))]
    exact ih hn.2 p hp
section
variable {H : Type} {enc : TypeId × Value → H} {P : Program} {W : World}
def roomOf (o : Option AObj) : Nat := match o with | some (.cells xs) => xs.length | _ => 0
def ghV (P : Program) (vars : List (Nat × AObj)) : Ghost := fun i => if i < P.globals.size then some ⟨i, 0, roomOf ((heapOf vars).get i), roomOf ((heapOf vars).get i)⟩ else none
theorem memV {vars : List (Nat × AObj)} (hv : ∀ p ∈ vars, p.1 < P.globals.size ∧ VarIs W p) : Mem P W ⟨heapOf vars, P.globals.size, P.globals.size⟩ (ghV P vars) where
 ro := rfl
 glob := fun i h => ⟨⟨i, 0, _, _⟩, by simp [ghV, h]; exact ⟨rfl, rfl⟩, rfl, rfl⟩
 dom := fun id h => by
  have h : P.globals.size ≤ id := h
  simp [ghV]; omega
 top := fun id o h => (hv _ (heapOf_mem h)).1
 obj := fun id o h hl => by
  have h : (heapOf vars).get id = some o := h
  obtain ⟨h1, h2⟩ := hv _ (heapOf_mem h)
  refine ⟨⟨id, 0, roomOf (some o), roomOf (some o)⟩, by simp only [ghV]; rw [if_pos h1, h], fun R hR => ?_⟩
  have hR : P.globals.size ≤ R := hR
  have h1 : id < P.globals.size := h1
  unfold VarIs at h2
  cases o with
  | table zs => exact h2
  | errv => exact h2
  | cells xs =>
    obtain ⟨k1, T, fz, k2⟩ := h2
    refine ⟨xs.toArray, T, fz, k2, by simp [roomOf], rfl, Nat.le_refl _, ?_, fun hle => by omega⟩
    have e : (xs.toArray.toList.drop 0).take (roomOf (some (.cells xs))) = xs := by simp [roomOf]
    rw [e]
    refine ⟨rfl, fun i v v' hi hi' => ?_⟩
    rw [hi] at hi'
    cases hi'
    exact .flat (k1 v (List.mem_of_getElem? hi))
  | _ => exact h2.elim
theorem law_memX (hm : P.follows .mixedOrders = true) {Γ : Funs} (hΓ : Told P Γ) (hs : List (Nat × Hint)) {vars : List (Nat × AObj)} (hvars : ∀ p ∈ vars, p.1 < P.globals.size ∧ VarIs W p) (hnd : (vars.map (·.1)).Nodup) {f : FuncId} {k base : Nat} {ts : List TypeId} {vs : List Value} {ds : List (DataW H)} {ps : List MemPlace}
 (hblk : ∃ (b : Nat) (arr : Array Value) (T : TypeId) (fz : Nat × Nat), W.heap[b]? = some (.cells arr T fz)) (hok : ts.all (okT P k) = true) (hA : DataW.TrodAll enc P W 0 (fun _ => true) true ts vs ds ps) (hw : ∀ y ∈ DataW.weightsEach P ts ds, y ≤ reachBytes)
 (hv : ∀ (j : Nat) t v, ts[j]? = some t → vs[j]? = some v → Value.okWide P W .any base t v)
 (h : ∀ K, Fix (hide Γ hs) K → ∀ st args, st.ro = st.next → P.globals.size ≤ st.next → (∀ p ∈ vars, st.get p.1 = some p.2) → WVs P st ts args → Ok (K.go (.call f args) st) fun r => r.1 = .bool true) :
 Calls P f vs.toArray W fun e w' => e = .returned (.bool true) ∧ Below W.heap.size W w' := by
 obtain ⟨st, g, args, hM, hL, hR, hW⟩ := args_prod hblk ts vs ds ps hok hA hw hv _ _ (memV hvars)
 obtain ⟨⟨v, st'⟩, hr, ht⟩ := h _ (fix_lim _) st args hM.ro hL.next (fun p hp => by rw [hL.get p.1 (hvars p hp).1]; exact heapOf_get hnd p hp) hW
 obtain ⟨n, hn⟩ := run_lim hr
 simp only at ht
 subst ht
 obtain ⟨st2, hn, _⟩ := run_of_hide (Nat.le_of_eq hM.ro) hn
 obtain ⟨_, hcalls⟩ := (goes_told hm hΓ n).call hn (hM.inv st2.next) hR
 refine (callsIn_wide.1 (hcalls 0)).mono fun e w' he => ?_
 cases e with
 | returned v' =>
   obtain ⟨g', hr, hto⟩ := he
   refine ⟨by rw [hr.bool], ⟨hto.step.os, hto.step.tape, hto.step.output, hto.step.size, fun k hk => hto.step.frame k hk ?_⟩⟩
   rintro ⟨id, o, G, ho, _, hro, _⟩
   have := hM.top id o ho
   have := hM.ro
   omega
 | panicked c => exact he.elim
 | outgrown => exact he.elim
theorem law_wholeX {P : Program} (hm : P.follows .mixedOrders = true) {Γ : Funs} (hΓ : Told P Γ) (hs : List (Nat × Hint)) {f : FuncId} {fn : Func} {s : ChangeSpec} {apart fresh handsOn again : Bool} {tb : TypeId} (k : Nat) (hvars : s.vars = []) (hok : fn.params.toList.all (okT P k) = true)
 (hread : (fn.params.toList.all fun t => P.readableRec t && decide (t < P.types.size)) = true) (hl : laidOutB P = true) (hrt : fn.resultTypes = #[tb]) (htb : P.underlying tb = some .bool)
 (hfn : ∀ ds : List (DataW H), ds.length = fn.params.toList.length → (s.fn H (ds ++ [])).results = [.lit (.bool true)] ∧ (s.fn H (ds ++ [])).args = ds ∧ (s.fn H (ds ++ [])).vars = [])
 {W : World} {vars : List (Nat × AObj)} (hV : ∀ p ∈ vars, p.1 < P.globals.size ∧ VarIs W p) (hnd : (vars.map (·.1)).Nodup)
 (h : ∀ K, Fix (hide Γ hs) K → ∀ st args, st.ro = st.next → P.globals.size ≤ st.next → (∀ p ∈ vars, st.get p.1 = some p.2) → WVs P st fn.params.toList args → Ok (K.go (.call f args) st) fun r => r.1 = .bool true)
 {base : Nat} {args : Array Value} {ds gs : List (DataW H)} {before : List MemPlace} {vt : List TypeId}
 (hval : ∀ (j : Nat) t v, fn.params[j]? = some t → args[j]? = some v → Value.okWide P W .any base t v) (hW : DataW.Whole enc P fn.params.toList s.vars apart W args.toList ds gs before)
 (hwt : (DataW.weightsEach P (fn.params.toList ++ vt) (ds ++ gs)).all (· ≤ reachBytes) = true) (hblk : ∃ (b : Nat) (arr : Array Value) (T : TypeId) (fz : Nat × Nat), W.heap[b]? = some (.cells arr T fz)) :
 Calls P f args W fun e W' => ∃ v, e = .returned v ∧ s.post enc P fn apart fresh handsOn again W args v W' := by
 have hW' := hW
 obtain ⟨p, q, hA, hV', rfl, hfz, hnd'⟩ := hW
 rw [hvars] at hV'
 obtain ⟨rfl, rfl⟩ := trodVars_none hV'
 obtain ⟨hlen, _⟩ := trodAll_length _ _ _ _ hA
 obtain ⟨e1, e2, e3⟩ := hfn ds hlen
 have hw : ∀ y ∈ DataW.weightsEach P fn.params.toList ds, y ≤ reachBytes := fun y hy => by
  have key : ∀ (ts us : List TypeId) (ds : List (DataW H)), y ∈ DataW.weightsEach P ts ds → y ∈ DataW.weightsEach P (ts ++ us) (ds ++ []) := by
   intro ts us
   induction ts with
   | nil => intro ds h; cases ds <;> simp [DataW.weightsEach] at h
   | cons t ts ih =>
     intro ds h
     cases ds with
     | nil => simp [DataW.weightsEach] at h
     | cons d ds =>
       simp only [DataW.weightsEach, List.cons_append, List.mem_append] at h ⊢
       exact h.imp id (ih ds)
  simpa using List.all_eq_true.1 hwt y (key _ vt ds hy)
 have hcalls := law_memX (W := W) hm hΓ hs hV hnd hblk hok hA hw (base := base) (fun j t v ht hv => hval j t v (by simpa using ht) (by simpa using hv)) h
 have hargs : args.toList.toArray = args := by simp
 rw [hargs] at hcalls
 refine hcalls.mono fun e W' ⟨he, hB⟩ => ⟨_, he, ?_⟩
 have hlt := fun x hx => hW'.lt x hx
 refine post_below (pa := p) (pv := []) hW' ?_ ?_ ?_ (by simp) hB ?_
 ·intro b sp hd
  rw [hrt, e1]
  exact trodAll_cons_mk (shut_bool htb _) trodAll_mk0
 ·intro sp hsp
  rw [e2]
  exact trodAll_stays hl hB _ _ _ _ hread hA (fun x hx => hlt x (by simpa using hx)) (fun x hx => hsp x (by simpa using hx))
 ·intro sp hsp
  rw [e3, hvars]
  exact rfl
 ·exact ok_one hrt rfl (okWide_bool_mk htb _)
end
theorem laid_tail {P : Program} {W : World} {x : String × DataW Unit} {rest : List (String × DataW Unit)} (h : laidMet P (x :: rest) W) : laidMet P rest W := by
 obtain ⟨ps, ⟨g, t, cs, fuel, p, q, h1, h2, h3, h4, h5, rfl⟩, h6, h7⟩ := h
 exact ⟨q, h5, (List.nodup_append.1 h6).2.1, fun b off hm => h7 b off (List.mem_append_right _ hm)⟩
theorem var_table {P : Program} {W : World} {name : String} {zs : List Int} {g : Nat} (hg : P.globalNamed name = some g) (h : Lib.TabIs P W name .u64 zs) : VarIs W (g, .table zs) := by
 unfold Lib.TabIs World.var? at h
 rw [hg] at h
 show ∃ T fz, W.heap[g]? = some (.cells (zs.map fun z => Value.int .u64 z).toArray T fz)
 cases hq : W.heap[g]? with
 | none => simp [hq] at h
 | some o =>
   cases o with
   | cells cs T fz =>
     simp [hq] at h
     subst h
     exact ⟨T, fz, by simp⟩
   | _ => simp [hq] at h
def strData {H : Type} (ss : List (List UInt8)) : DataW H := .agg (ss.map fun s => .lit (.string s))
theorem cells_of_strs {H : Type} {enc : TypeId × Value → H} {P : Program} {w : World} {base : Nat} {sp : Nat → Bool} {held : Bool} {fuel : Nat} {t e : TypeId} {n : Nat} {cs : List Value} {ss : List (List UInt8)} {p : List MemPlace}
 (ht : P.underlying t = some (.array n e)) (he : P.underlying e = some .string) (hce : P.cellsOf e = 1) (hct : P.cellsOf t = n)
 (h : DataW.trod enc P w base sp held fuel t cs = some (strData ss, p)) : cs = ss.map fun s => Value.string ⟨s.toArray⟩ := by
 cases fuel with
 | zero => simp [DataW.trod] at h
 | succ fuel =>
   simp only [DataW.trod, ht, hce, hct, Nat.mul_one] at h
   split at h
   ·rename_i hl
    obtain ⟨xs, hm, hx⟩ := Option.map_eq_some_iff.1 h
    have hxs : xs.map (·.1) = ss.map fun s => (DataW.lit (.string s) : DataW H) := by
     have := congrArg Prod.fst hx
     simpa [strData] using this
    have hxl : xs.length = n := by simpa using Lib.mapM_length hm
    have hzl : ss.length = n := by
     have := congrArg List.length hxs
     simp at this
     omega
    apply List.ext_getElem?
    intro i
    by_cases hi : i < n
    ·obtain ⟨b, hb, hf⟩ := Lib.mapM_at hm i i (by simp [hi])
     obtain ⟨z, hc, rfl, _⟩ := DataW.trod_string he hf
     have h1 : cs[i]? = some (.string z) := by
      have := congrArg (·[0]?) hc
      simpa [List.getElem?_take, List.getElem?_drop] using this
     have h2 : (xs.map (·.1))[i]? = some (DataW.lit (.string z.data.toList) : DataW H) := by simp [hb]
     rw [hxs] at h2
     simp only [List.getElem?_map, Option.map_eq_some_iff, DataW.lit.injEq, Lit.string.injEq] at h2
     obtain ⟨z', hz', e⟩ := h2
     subst e
     rw [h1, List.getElem?_map, hz']
     rfl
    ·rw [List.getElem?_eq_none (by omega), List.getElem?_eq_none (by simp; omega)]
   ·cases h
theorem var_strs {P : Program} {W : World} {name : String} {ss : List (List UInt8)} {rest : List (String × DataW Unit)} {g : Nat} {t e : TypeId} {n : Nat}
 (hg : P.globalNamed name = some g) (hty : (P.globals[g]?).map (·.type) = some t) (ht : P.underlying t = some (.array n e)) (he : P.underlying e = some .string) (hce : P.cellsOf e = 1) (hct : P.cellsOf t = n)
 (h : laidMet P ((name, strData ss) :: rest) W) : VarIs W (g, .cells (ss.map fun s => Value.string ⟨s.toArray⟩)) := by
 obtain ⟨ps, ⟨g', t', cs, fuel, p, q, hg', ht', hvar, hd, _, _⟩, _⟩ := h
 obtain rfl := Option.some.inj (hg.symm.trans hg')
 obtain rfl := Option.some.inj (hty.symm.trans ht')
 have hc := cells_of_strs ht he hce hct hd
 unfold World.var? at hvar
 rw [hg] at hvar
 refine ⟨fun v hv => ?_, ?_⟩
 ·obtain ⟨s, _, rfl⟩ := List.mem_map.1 hv
  rfl
 ·cases hq : W.heap[g]? with
  | none => simp [hq] at hvar
  | some o =>
    cases o with
    | cells cs' T fz =>
      simp [hq] at hvar
      subst hvar
      exact ⟨T, fz, by rw [← hc]⟩
    | _ => simp [hq] at hvar
end Go.AM
