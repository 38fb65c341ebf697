/-
  Ranges over functions: one round; all of it.
-/
import Derived.Test.YtefdkodjpcabmaaDoorAmC
set_option linter.unusedVariables false
set_option linter.unusedSimpArgs false
set_option linter.unusedSectionVars false
namespace Go.Proofs.YtefdkodjpcabmaaDoor.Sh
open Go Go.AM Go.Proofs
theorem round_of {Γ : Funs} {K : Ctx} (hF : Fix Γ K) {l : Nat} {args : List Value} {st st1 : St} {e e1 e2 : Env} {ps ps2 : List Tmp} {ac bd as2 bd2 : ACode} {s : LoopState} {pd pd2 : AExit} {Q : Value × St → Prop}
 (h0 : st.get l = some (.loop e ps ac bd s pd)) (hl : args.length = ps.length) (hro : st.ro ≤ l) (has : codeC K ac (putL e ps args) st = .ok (.normal, e1, st1)) (h2 : st1.get l = some (.loop e2 ps2 as2 bd2 .ready pd2))
 (hb : ∀ J, IsJ K rawK J → Ok (atR K J bd e1 (st1.put l (.loop e2 ps2 as2 bd2 .busy pd2))) fun r => ∃ e4 ps4 as4 bd4 s4 pd4, r.2.get l = some (.loop e4 ps4 as4 bd4 s4 pd4) ∧
   Q (match r.1 with | .normal => (.bool true, r.2.put l (.loop e4 ps4 as4 bd4 .ready .normal)) | x => (.bool false, r.2.put l (.loop e4 ps4 as4 bd4 .done x)))) : Ok (K.go (.round l args) st) Q := by
 obtain ⟨r, h, e4, ps4, as4, bd4, s4, pd4, hg, hq⟩ := hb (fun ks => kOf K rawK ks .normal) (fun _ _ _ => rfl)
 unfold atR at h
 rw [codeJ_eq (fin := rawK) (k := rawK) (ks := []) (fun _ _ _ => rfl) bd (fun _ _ _ => rfl)] at h
 rw [Res.bind_eq_ok] at h
 obtain ⟨⟨x, e3, st3⟩, h1, h⟩ := h
 have hk : kOf K rawK [] x e3 st3 = .ok (x, st3) := by cases x <;> rfl
 rw [hk] at h
 cases h
 exact ⟨_, hF.round h0 hl hro has h2 h1 hg, hq⟩
end Go.Proofs.YtefdkodjpcabmaaDoor.Sh
