/-
  THE ABSTRACT MACHINE, 26: from a run of the machine that answers true to what a law's row asks.
-/
import Derived.Test.YtfknooeebmdfoaaAmDrawG
import Derived.Below
import Derived.Carry
import Derived.WalkKit
import Derived.ProofKit
import Derived.OpenShut
set_option linter.unusedVariables false
namespace Go.AM
open Go.RowKit Go.ChangeShapes Go.WideShapes Go.ChangeAt

def st0 (N : Nat) : St := ⟨.nil, N, N⟩

def isTrue : Res (Value × St) → Bool
  | .ok (.bool true, _) => true
  | _ => false

theorem isTrue_ok {r : Res (Value × St)} (h : isTrue r = true) : ∃ st', r = .ok (.bool true, st') := by
  unfold isTrue at h
  split at h
  · exact ⟨_, rfl⟩
  · cases h

def gh0 (P : Program) : Ghost := fun i => if i < P.globals.size then some ⟨i, 0, 0, 0⟩ else none

theorem inv_start {P : Program} {N : Nat} (hN : P.globals.size ≤ N) (hi : Nat) (w : World) : Inv0 P hi (st0 N) (gh0 P) w where
  rl := ⟨fun id o h => by simp [st0, St.get] at h, fun id id' o o' G G' h => by simp [st0, St.get] at h, fun i h => ⟨⟨i, 0, 0, 0⟩, by simp [gh0, h], rfl, rfl⟩⟩
  ro := Nat.le_refl _
  fresh := fun id h _ => by
    have h : N ≤ id := h
    simp [gh0]; omega
  top := fun id o h => by simp [st0, St.get] at h

theorem below_of {P : Program} {N : Nat} {w w' : World} {st' : St} {g' : Ghost} (h : To P (st0 N) (gh0 P) w st' g' w') : Below w.heap.size w w' where
  os := h.step.os
  tape := h.step.tape
  output := h.step.output
  size := h.step.size
  block := fun k hk => h.step.frame k hk fun ⟨id, o, G, ho, _⟩ => by simp [st0, St.get] at ho

/-- A call that reads no memory of others: what the machine says of it. -/
theorem calls_of {P : Program} (hm : P.follows .mixedOrders = true) {N n : Nat} {f : FuncId} {args : List Value} (hN : P.globals.size ≤ N) (hflat : args.all flat = true) {v : Value} {st' : St}
    (h : runT (funs P) n (.call f args) (st0 N) = .ok (v, st')) (w : World) : Calls P f args.toArray w fun e w' => ∃ g' v', e = .returned v' ∧ Rel g' v v' ∧ Below w.heap.size w w' := by
  have hrel : RelL (gh0 P) args args := .of_flat fun x hx => .flat (List.all_eq_true.1 hflat x hx)
  obtain ⟨_, hc⟩ := (goes_all hm n).call h (inv_start hN st'.next w) hrel
  refine (callsIn_wide.1 (hc 0)).mono fun e w' he => ?_
  cases e with
  | returned v' => obtain ⟨g', hr, hto⟩ := he; exact ⟨g', v', rfl, hr, below_of hto⟩
  | panicked c => exact he.elim
  | outgrown => exact he.elim

theorem true_of {P : Program} (hm : P.follows .mixedOrders = true) {N n : Nat} {f : FuncId} {args : List Value} (hN : P.globals.size ≤ N) (hflat : args.all flat = true)
    (h : isTrue (runT (funs P) n (.call f args) (st0 N)) = true) (w : World) : Calls P f args.toArray w fun e w' => e = .returned (.bool true) ∧ Below w.heap.size w w' := by
  obtain ⟨st', h⟩ := isTrue_ok h
  refine (calls_of hm hN hflat h w).mono fun e w' ⟨g', v', he, hr, hb⟩ => ⟨?_, hb⟩
  rw [he, hr.bool]

section
variable {H : Type} {enc : TypeId × Value → H} {P : Program}

/-- The row's 'post', where of what was there nothing has turned. -/
theorem post_below {f : Func} {s : ChangeSpec} {apart fresh handsOn again : Bool} {W W' : World} {args : Array Value} {v : Value} {ds gs : List (DataW H)} {before pa pv : List MemPlace}
    (hW : DataW.Whole enc P f.params.toList s.vars apart W args.toList ds gs before)
    (hres : ∀ (b : Nat) (sp : Nat → Bool) (hd : Bool), DataW.TrodAll enc P W' b sp hd f.resultTypes.toList (v.resultList f.resultTypes.size) (s.fn H (ds ++ gs)).results [])
    (hargs : ∀ sp : Nat → Bool, (∀ p ∈ before, sp p.block = true) → DataW.TrodAll enc P W' 0 sp true f.params.toList args.toList (s.fn H (ds ++ gs)).args pa)
    (hvars : ∀ sp : Nat → Bool, (∀ p ∈ before, sp p.block = true) → DataW.TrodVars enc P W' sp s.vars (s.fn H (ds ++ gs)).vars pv)
    (hps : before = pa ++ pv) (hB : Below W.heap.size W W')
    (hok : ∀ (j : Nat) (t : TypeId) (r : Value), f.resultTypes[j]? = some t → (v.resultList f.resultTypes.size)[j]? = some r → Value.okWide P W' .any 0 t r) :
    s.post enc P f apart fresh handsOn again W args v W' := by
  have hlt := fun p hp => hW.lt p hp
  refine ⟨ds, gs, before, [], pa, pv, hW, hres _ _ _, hargs _ (fun p hp => by simpa using hlt p hp), hvars _ (fun p hp => by simpa using hlt p hp), World.keptBut_mono (fun p hp => ⟨hp, .inr (by rw [hps, List.mem_append] at hp; exact hp)⟩) (hB.frame _), fun _ => ?_⟩
  obtain ⟨_, _, _, _, _, hz, hn⟩ := hW
  refine ⟨hok, _, _, ([] ++ pa) ++ pv, ⟨[] ++ pa, pv, trodAll_append (hargs _ (fun _ _ => rfl)) (hres _ _ _), hvars _ (fun _ _ => rfl), rfl, fun b off hp => ?_, fun ha => ?_⟩, fun p hp _ => ?_⟩
  · have hp : MemPlace.cell b off ∈ before := by rw [hps]; simpa using hp
    rw [hB.frozen (hlt _ hp)]
    exact hz b off hp
  · simpa [hps] using hn ha
  · simpa [hps] using hp
end
end Go.AM

