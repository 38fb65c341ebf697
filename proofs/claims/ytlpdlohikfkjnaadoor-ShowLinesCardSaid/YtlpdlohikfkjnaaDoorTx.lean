/-
  strconv.FormatInt and strconv.ParseInt do as the machine is told.
-/
import Derived.Test.YtlpdlohikfkjnaaDoorExt
import Derived.Test.YtlpdlohikfkjnaaDoorShN
import Derived.Test.YtlpdlohikfkjnaaDoorLay
set_option linter.unusedVariables false
set_option maxRecDepth 100000
set_option linter.unusedSectionVars false
namespace Go.Proofs.YtlpdlohikfkjnaaDoor.Sh
open Go Go.AM Go.Proofs Go.RowKit
theorem known_FI : Known pg n_strconv_FormatInt := ⟨_, Tryd.func41, by kernel_rfl, by decide +kernel⟩
theorem known_PI : Known pg n_strconv_ParseInt := ⟨_, Tryd.func82, by kernel_rfl, by decide +kernel⟩
theorem RelL.nil_of {g : Ghost} {l : List Value} (h : RelL g [] l) : l = [] := List.length_eq_zero_iff.1 h.1.symm
theorem RelL.cons_of {g : Ghost} {v : Value} {l l' : List Value} (h : RelL g (v :: l) l') : ∃ v' r, l' = v' :: r ∧ Rel g v v' ∧ RelL g l r := by
 cases l' with
 | nil => have := h.1; simp at this
 | cons v' r => exact ⟨v', r, rfl, h.head, h.tail⟩
theorem var_at {hi : Nat} {st : St} {g : Ghost} {w : World} (hI : Inv0 pg hi st g w) {i : Nat} (hi : i < pg.globals.size) {z : Option (List Int)} (hz : z.bind (·.head?) ≠ some (-7)) (h : hasVar (st.get i) z = true) :
 match (generalizing := false) z with | some zs => ∃ T fz, w.heap[i]? = some (.cells (zs.map fun z => Value.int .u64 z).toArray T fz) | none => ∃ te pe T fz, w.heap[i]? = some (.cells #[.iface te pe] T fz) := by
 obtain ⟨G0, k1, k2, k3⟩ := hI.rl.glob i hi
 unfold hasVar at h
 cases hq : st.get i with
 | none => rw [hq] at h; cases z <;> cases h
 | some o =>
   rw [hq] at h
   cases o with
   | table l =>
     cases z with
     | none => cases h
     | some ys =>
       have := of_decide_eq_true h
       subst this
       obtain ⟨G, hG, hok⟩ := hI.rl.obj i _ hq rfl
       rw [k1] at hG; cases hG
       rw [← k2]
       exact hok
   | errv =>
     cases z with
     | some ys => cases h
     | none =>
       obtain ⟨G, hG, hok⟩ := hI.rl.obj i _ hq rfl
       rw [k1] at hG; cases hG
       rw [← k2]
       exact hok
   | cells xs =>
     cases z with
     | none => cases h
     | some ys =>
       simp only [Bool.and_eq_true, decide_eq_true_eq] at h
       exact absurd h.2 hz
   | _ => cases z <;> cases h
theorem grow_below (w : World) (k : Nat) (os : Array Obj) : Below w.heap.size w («Sort».grow (w.drewN k) os) where
 os := rfl
 tape := rfl
 output := rfl
 size := by show w.heap.size ≤ (w.heap ++ os).size; simp
 block := fun k hk => by
  show (w.heap ++ os)[k]? = _
  rw [Array.getElem?_append_left hk]
theorem fi_ok : XOk pg n_strconv_FormatInt gFI [(1, some Lib.pow10Tab)] := by
 refine ⟨known_FI, fun {args args' st hi g w v} hI hnd hx hargs => ?_⟩
 simp only [gFI, Look.of] at hx
 split at hx
 ·rename_i n b
  split at hx
  ·rename_i hb
   obtain ⟨h0, h1, rfl⟩ := hb
   cases hx
   obtain ⟨v1, r1, rfl, k1, hargs⟩ := RelL.cons_of hargs
   obtain ⟨v2, r2, rfl, k2, hargs⟩ := RelL.cons_of hargs
   cases RelL.nil_of hargs
   have k1 := k1.int
   have k2 := k2.int
   subst k1; subst k2
   simp only [List.all_cons, List.all_nil, Bool.and_true] at hnd
   obtain ⟨T, fz, hq⟩ := var_at hI (i := 1) (by decide +kernel) (by decide) hnd
   have htab : Lib.TabIs Tryd.prog w "internal/strconv.uint64pow10" .u64 Lib.pow10Tab := by
    unfold Lib.TabIs World.var?
    rw [show Tryd.prog.globalNamed "internal/strconv.uint64pow10" = some 1 by kernel_rfl]
    simp [hq]
   exact (Any.strconv_FormatInt_10 Tryd.laysFI n h0 h1 w htab).mono fun e w' ⟨he, k, os, hw⟩ => ⟨_, he, .flat rfl, by rw [hw]; exact grow_below w k os⟩
  ·cases hx
 ·cases hx
theorem pi_ok : XOk pg n_strconv_ParseInt (gPI 158) [(4, none), (5, none)] := by
 refine ⟨known_PI, fun {args args' st hi g w v} hI hnd hx hargs => ?_⟩
 simp only [gPI, Look.of] at hx
 split at hx
 ·rename_i s b z
  split at hx
  ·rename_i hb
   obtain ⟨h0, rfl, rfl⟩ := hb
   cases hx
   obtain ⟨v1, r1, rfl, k1, hargs⟩ := RelL.cons_of hargs
   obtain ⟨v2, r2, rfl, k2, hargs⟩ := RelL.cons_of hargs
   obtain ⟨v3, r3, rfl, k3, hargs⟩ := RelL.cons_of hargs
   cases RelL.nil_of hargs
   have k1 := k1.string
   have k2 := k2.int
   have k3 := k3.int
   subst k1; subst k2; subst k3
   simp only [List.all_cons, List.all_nil, Bool.and_true, Bool.and_eq_true] at hnd
   obtain ⟨t2, p2, T2, f2, q2⟩ := var_at hI (i := 4) (by decide +kernel) (by decide) hnd.1
   obtain ⟨t3, p3, T3, f3, q3⟩ := var_at hI (i := 5) (by decide +kernel) (by decide) hnd.2
   have c2 : w.cell? ⟨4, 0, none⟩ = some (.iface t2 p2) := by simp [World.cell?, q2]
   have c3 : w.cell? ⟨5, 0, none⟩ = some (.iface t3 p3) := by simp [World.cell?, q3]
   have herr : ∀ {a : Int} {N : Nat}, Rel g (.tuple #[nothing, .iface 158 nothing]) (.tuple #[.int .i64 a, .iface 158 (.pointer (some ⟨N, 0, none⟩))]) := fun {a N} =>
    Rel.tuple_of (c := [nothing, .iface 158 nothing]) (c' := [.int .i64 a, .iface 158 (.pointer (some ⟨N, 0, none⟩))]) (.cons (.nothing _) (.cons (.iface (.nothing _)) (.nil _)))
   unfold piOf
   cases hp : Lib.parseIntB 64 s.data.toList with
   | ok v =>
     refine (Any.strconv_ParseInt_10_at64_ok Tryd.laysPI s (by omega) v hp w).mono fun e w' ⟨he, hw⟩ => ⟨_, he, ?_, ?_⟩
     ·exact Rel.tuple_of (c := [.int .i64 v, .nilIface]) (c' := [.int .i64 v, .nilIface]) (.cons (.flat rfl) (.cons (.flat rfl) (.nil _)))
     ·rcases hw with rfl | ⟨t, rfl⟩
      ·exact .refl _ _
      ·exact Lib.bytesWorld_below _ _ _
   | range =>
     exact (Any.strconv_ParseInt_10_at64_range Tryd.laysPI s h0 hp _ w c3 (.inr ⟨_, _, rfl⟩)).mono fun e w' ⟨N, he, _, _, hw⟩ => ⟨_, he, herr, hw⟩
   | _ =>
     exact (Any.strconv_ParseInt_10_at64_syntax Tryd.laysPI s h0 hp _ w c2 (.inr ⟨_, _, rfl⟩)).mono fun e w' ⟨N, he, _, _, hw⟩ => ⟨_, he, herr, hw⟩
  ·cases hx
 ·cases hx
end Go.Proofs.YtlpdlohikfkjnaaDoor.Sh
