/- IrLasts: whatever the input, the law's function returns true and leaves its arguments as they were; conditions: none. -/
import Derived.Test.YtfknooeebmdfoaaRows
import Derived.Test.YtfknooeebmdfoaaIrLasts
import Derived.Test.YtfknooeebmdfoaaAmClose
import Derived.WalkKit
import Derived.ProofKit
import Derived.OpenShut
import Derived.Lib.SmallJoins
namespace Go.Proofs.Ytfknooeebmdfoaa.irLasts
open Go.ChangeShapes Go.WideShapes Go.ChangeAt Go.RowKit Go.AM Go.Proofs.Ytfknooeebmdfoaa.Sh Go.Joins
set_option linter.unusedVariables false

theorem own : ownKnob Try.prog.godebug = none := by kernel_rfl

theorem walk (k a y n e : Int) (s : Bool) (w : World) :
    Calls Try.prog 7 #[.agg #[.int .u8 k, .int .i64 a, .int .i64 y, .int .i64 n], .int .u8 e, .bool s] w fun e w' => e = .returned (.bool true) ∧ Below w.heap.size w w' :=
  law_true (args := [.agg #[.int .u8 k, .int .i64 a, .int .i64 y, .int .i64 n], .int .u8 e, .bool s]) (Checked.mixed Try.checked) (N := 100) (of_decide_eq_true (by kernel_rfl)) rfl
    (fun K hF => IrLasts_ok hF ⟨k, a, y, n⟩ e s (st0 100) (Nat.le_refl _)) w

theorem cells51 : Try.prog.cellsOf 51 = 4 := by kernel_rfl

set_option maxRecDepth 100000 in
theorem lifted (os : Os) (started : os.Started) (H : Type) (enc : TypeId × Value → H) :
    ReturnsInHanded {} Try.checked os 7 .any (Rows.irLastsSpec.pre6 enc Try.prog Try.f7 Rows.irLastsRow.domain false) (Rows.irLastsSpec.post enc Try.prog Try.f7 false true false false) := by
  refine returnsInHanded_of_change (C := Try.checked) own started (by kernel_rfl) Try.func7
    (ChangeSpec.witness6 (enc := enc) (C := Try.checked) false ⟨#[], #[.agg #[.int .u8 0, .int .i64 0, .int .i64 0, .int .i64 0], .int .u8 0, .bool false], []⟩ 8 (by kernel_rfl) (by kernel_rfl) (by kernel_rfl) (by kernel_rfl)) ?_
  intro W base args ds gs before hval0 hW hcnd _
  have hval : ∀ (j : Nat) t v, Try.f7.params[j]? = some t → args[j]? = some v → Value.okWide Try.prog W .any base t v := hval0
  have hW' := hW
  obtain ⟨p, q, hA0, hV, rfl, hfz, hnd⟩ := hW
  have hA : DataW.TrodAll enc Try.prog W 0 (fun _ => true) true Try.f7.params.toList args.toList ds p := hA0
  rw [Try.params7] at hA hval
  obtain ⟨v0, vs0, d0, ds0, p0, q0, hargs, rfl, rfl, h0, r0⟩ := trodAll_cons hA
  obtain ⟨v1, vs1, d1, ds1, p1, q1, rfl, rfl, rfl, h1, r1⟩ := trodAll_cons r0
  obtain ⟨v2, vs2, d2, ds2, p2, q2, rfl, rfl, rfl, h2, r2⟩ := trodAll_cons r1
  obtain ⟨rfl, rfl, rfl⟩ := trodAll_nil r2
  obtain rfl : args = #[v0, v1, v2] := by cases args; simp_all
  obtain ⟨rfl, rfl⟩ := trodVars_none hV
  obtain ⟨a1, rfl, rfl, rfl, w1⟩ := open_int Try.underlying5 (hval 1 5 v1 rfl rfl) h1
  obtain ⟨a2, rfl, rfl, rfl⟩ := open_bool Try.underlying4 (hval 2 4 v2 rfl rfl) h2
  obtain ⟨c0, c1, c2, c3, y0, y1, y2, y3, n, rfl, rfl, rfl, k0, k1, k2, k3⟩ := open_agg4 Try.underlying51 (by kernel_rfl) cells51 (hval 0 51 v0 rfl rfl) h0
  obtain ⟨x0, hx0, rfl, w0⟩ := DataW.trod_int Try.underlying49 k0
  obtain ⟨x1, hx1, rfl, w2⟩ := DataW.trod_int Try.underlying3 k1
  obtain ⟨x2, hx2, rfl, w3⟩ := DataW.trod_int Try.underlying3 k2
  obtain ⟨x3, hx3, rfl, w4⟩ := DataW.trod_int Try.underlying3 k3
  cases hx0; cases hx1; cases hx2; cases hx3
  clear hA0 hval0
  simp only [List.append_nil] at hW'
  refine (walk x0 x1 x2 x3 a1 a2 W).mono fun e W' ⟨he, hg⟩ => ?_
  subst he
  have sh : ∀ (W2 : World) (sp : Nat → Bool), DataW.Trod enc Try.prog W2 0 sp true 51 (.agg #[.int .u8 x0, .int .i64 x1, .int .i64 x2, .int .i64 x3]) (.agg [.lit (.int .u8 x0), .lit (.int .i64 x1), .lit (.int .i64 x2), .lit (.int .i64 x3)]) [] := fun W2 sp =>
    shut_agg4 (y0 := (.lit (.int .u8 x0), [])) (y1 := (.lit (.int .i64 x1), [])) (y2 := (.lit (.int .i64 x2), [])) (y3 := (.lit (.int .i64 x3), [])) Try.underlying51 (by kernel_rfl) cells51
      (shut_int Try.underlying49 w0) (shut_int Try.underlying3 w2) (shut_int Try.underlying3 w3) (shut_int Try.underlying3 w4)
  exact ⟨_, rfl, post_below (pa := []) (pv := []) hW' (fun _ _ _ => (trodAll_cons_mk (shut_bool Try.underlying4 _) trodAll_mk0)) (fun sp _ => (trodAll_cons_mk (sh _ _) (trodAll_cons_mk (shut_int Try.underlying5 w1) (trodAll_cons_mk (shut_bool Try.underlying4 _) trodAll_mk0)))) (fun _ _ => rfl) rfl
    hg (ok_one (by kernel_rfl) rfl (okWide_bool_mk Try.underlying4 _))⟩

theorem over : Rows.irLastsRow.holds Try.pinned (OpenSpec.ofChange Rows.irLastsSpec) :=
  OpenClaim.holds_of_wide 7 Try.f7 rfl rfl rfl rfl rfl rfl rfl ⟨rfl, rfl, rfl, rfl, rfl⟩ rfl rfl rfl rfl rfl (by kernel_rfl) Try.func7 (by kernel_rfl)
    (of_decide_eq_true (by kernel_rfl)) (by unfold Func.isWrapper; first | (rw [if_pos (by decide +kernel)]; kernel_rfl) | (rw [if_neg (by decide +kernel)]; exact ⟨rfl, rfl⟩))
    (fun os started H enc _ => lifted os started H enc)

theorem proved : Rows.IrLastsSaid :=
  over
#print axioms proved
end Go.Proofs.Ytfknooeebmdfoaa.irLasts
