/-
  Plain programs, laid out as tokens: they are read (blocks, programs).
-/
import Derived.Test.YtdjfndijbnpkpaaDoorTk5
set_option linter.unusedVariables false
set_option linter.unusedSimpArgs false
set_option linter.unusedSectionVars false
set_option maxRecDepth 100000
namespace Go.Proofs.YtdjfndijbnpkpaaDoor.Sh
open Go Go.AM Go.Proofs Go.AM.Lx

structure Block.Good (b : Block) : Prop where
  label : 0 ≤ b.label ∧ b.label < 100000
  phis : b.phis = []
  instrs : ∀ x ∈ b.instrs, x.Good
  last : b.last.Good

namespace PS
theorem bloop_lay {e : Last} (he : e.Good) {l : List Rd} : ∀ (xs : List Instr) (ls ts : List Tok) (f : Nat) (r : List Tok) (a : Nat) (acc : List Instr), (∀ x ∈ xs, x.Good) → (∀ x ∈ ls, x.kind = 7) → Lay ((xs.flatMap fun x => rdI x ++ [rLine]) ++ (rdL e ++ rLine :: l)) ts →
    ∃ ts', Lay (rLine :: l) ts' ∧ bloop (f + xs.length + 1) ⟨ls ++ (ts ++ r), a, 0⟩ acc = some (acc ++ xs, e, ⟨ts' ++ r, a, 0⟩) := by
  intro xs
  induction xs with
  | nil =>
    intro ls ts f r a acc hx hls hl
    obtain ⟨t, u, ts', rfl, h1, h2, h3⟩ := last_lay he (l := rLine :: l) (ts := ts) (by simpa using hl) r a
    refine ⟨ts', h2, ?_⟩
    have hln : lines ⟨ls ++ (t :: u ++ r), a, 0⟩ = ⟨t :: u ++ r, a, 0⟩ := lines_ok hls h1
    show (if _ then _ else _) = _
    rw [if_pos rfl, hln, h3]
    simp
  | cons x xs ih =>
    intro ls ts f r a acc hx hls hl
    have hl : Lay (rdI x ++ (rLine :: ((xs.flatMap fun x => rdI x ++ [rLine]) ++ (rdL e ++ rLine :: l)))) ts := by simpa using hl
    obtain ⟨t, u, ts1, rfl, h1, h2, h3, h4⟩ := instr_lay (hx x (List.mem_cons_self ..)) hl r a
    obtain ⟨t7, ls', ts2, rfl, h5, h6, h7⟩ := lay_line h3 rfl
    obtain ⟨ts', h8, h9⟩ := ih ls' ts2 f r a (acc ++ [x]) (fun y hy => hx y (List.mem_cons_of_mem _ hy)) h6 h7
    refine ⟨ts', h8, ?_⟩
    have hln : lines ⟨ls ++ (t :: u ++ r), a, 0⟩ = ⟨t :: u ++ r, a, 0⟩ := lines_ok hls h1
    rw [List.length_cons, show f + (xs.length + 1) + 1 = (f + xs.length + 1) + 1 by omega]
    show (if _ then _ else _) = _
    rw [if_pos rfl, hln, h2]
    simp only [Bool.false_eq_true, if_false]
    rw [h4]
    simp only
    have e1 : t7 :: (ls' ++ ts2) ++ r = t7 :: (ls' ++ (ts2 ++ r)) := by simp
    rw [e1, eol_ok h5, h9]
    simp
theorem block_lay {b : Block} (hb : b.Good) {l : List Rd} {ts : List Tok} (hl : Lay (rdB b ++ l) ts) {f : Nat} (hf : b.instrs.length + 1 ≤ f) (r : List Tok) (a : Nat) :
    ∃ t u ls ts', ts = t :: u ∧ t.kind = 3 ∧ (∀ x ∈ ls, x.kind = 7) ∧ Lay l ts' ∧ block f ⟨ts ++ r, a, 0⟩ = some (b, ⟨ls ++ (ts' ++ r), a, 0⟩) := by
  have hl : Lay (rLab b.label :: rSign 58 :: rLine :: ((b.instrs.flatMap fun x => rdI x ++ [rLine]) ++ (rdL b.last ++ rLine :: l))) ts := by
    unfold rdB at hl
    simpa using hl
  obtain ⟨t1, u1, rfl, s1, hm⟩ := lay_ne hl (by simp [rLab])
  obtain ⟨t2, u2, rfl, s2, hm⟩ := lay_ne hm (by simp [rSign])
  obtain ⟨t3, ls3, u3, rfl, k3, hls3, hm⟩ := lay_line hm rfl
  have k1 : t1.kind = 3 := s1.1
  have n1 : t1.n = b.label := s1.2.2
  have hlab := hb.label
  obtain ⟨g, rfl⟩ : ∃ g, f = g + b.instrs.length + 1 := ⟨f - b.instrs.length - 1, by omega⟩
  obtain ⟨ts4, hm4, hbl⟩ := bloop_lay hb.last b.instrs ls3 u3 g r a [] hb.instrs hls3 hm
  obtain ⟨t5, ls5, ts5, rfl, k5, hls5, hm5⟩ := lay_line hm4 rfl
  refine ⟨t1, _, ls5, ts5, rfl, k1, hls5, hm5, ?_⟩
  unfold block
  have e0 : t1 :: t2 :: t3 :: (ls3 ++ u3) ++ r = t1 :: t2 :: t3 :: (ls3 ++ (u3 ++ r)) := by simp
  have e5 : t5 :: (ls5 ++ ts5) ++ r = t5 :: (ls5 ++ (ts5 ++ r)) := by simp
  rw [e0, label_ok k1 (by omega)]
  simp only
  rw [sign_ok s2.1 s2.2.1, eol_ok k3, hbl]
  simp only
  rw [e5, is_no (by rw [k5]; decide), eol_ok k5, n1, List.nil_append]
  simp only [Bool.false_eq_true, if_false]
  have := hb.phis
  obtain ⟨lb, ph, is, la⟩ := b
  simp only at this
  subst this
  rfl
theorem progL_lay {N : Nat} {e : Tok} (he : e.kind = 0) : ∀ (p : Prog) (ls ts : List Tok) (f : Nat) (acc : Prog), (∀ b ∈ p, b.Good ∧ b.instrs.length ≤ N) → (∀ x ∈ ls, x.kind = 7) → Lay (rdP p) ts → p.length + N + 2 ≤ f → ∃ S, progL f (lines ⟨ls ++ (ts ++ [e]), 0, 0⟩) acc = some (acc ++ p, S) ∧ S.err = 0 := by
  intro p
  induction p with
  | nil =>
    intro ls ts f acc hp hls hl hf
    have hl : Lay [] ts := by simpa [rdP] using hl
    cases hl
    obtain ⟨f, rfl⟩ : ∃ g, f = g + 1 := ⟨f - 1, by omega⟩
    have hln : lines ⟨ls ++ ([] ++ [e]), 0, 0⟩ = ⟨[e], 0, 0⟩ := lines_ok hls (by rw [he]; decide)
    rw [hln]
    refine ⟨⟨[e], 0, 0⟩, ?_, rfl⟩
    show (if _ then _ else _) = _
    rw [is_no (by rw [he]; decide), if_neg (by decide)]
    unfold take
    rw [is_ok he (.inl rfl)]
    simp
  | cons b p ih =>
    intro ls ts f acc hp hls hl hf
    have hl : Lay (rdB b ++ rdP p) ts := by simpa [rdP] using hl
    obtain ⟨hb, hN⟩ := hp b (List.mem_cons_self ..)
    simp only [List.length_cons] at hf
    obtain ⟨f, rfl⟩ : ∃ g, f = g + 1 := ⟨f - 1, by omega⟩
    obtain ⟨t, u, ls', ts', rfl, k1, h2, h3, h4⟩ := block_lay hb hl (f := f) (by omega) [e] 0
    obtain ⟨S, h5, h6⟩ := ih ls' ts' f (acc ++ [b]) (fun c hc => hp c (List.mem_cons_of_mem _ hc)) h2 h3 (by omega)
    refine ⟨S, ?_, h6⟩
    have hln : lines ⟨ls ++ (t :: u ++ [e]), 0, 0⟩ = ⟨t :: u ++ [e], 0, 0⟩ := lines_ok hls (by rw [k1]; decide)
    rw [hln]
    show (if _ then _ else _) = _
    rw [show t :: u ++ [e] = t :: (u ++ [e]) from rfl, is_ok k1 (.inl rfl), if_pos rfl, show t :: (u ++ [e]) = t :: u ++ [e] from rfl, h4]
    simp only
    rw [h5]
    simp
end PS

theorem items_P {p : Prog} (h : ∀ b ∈ p, b.Good) : ∀ q ∈ rdP p, Item q := by
  intro q hq
  unfold rdP at hq
  obtain ⟨b, hb, hq⟩ := List.mem_flatMap.1 hq
  have g := h b hb
  unfold rdB at hq
  simp only [List.mem_append, List.mem_cons, List.not_mem_nil, or_false, List.mem_flatMap] at hq
  have hlb := g.label
  rcases hq with ((((rfl | rfl | rfl) | ⟨x, hx, hq⟩) | hq) | rfl)
  · exact item_lab ⟨hlb.1, by omega⟩
  · exact item_sign (by decide)
  · exact item_line
  · rcases hq with hq | rfl
    · exact items_I (g.instrs x hx) q hq
    · exact item_line
  · exact items_L g.last q hq
  · exact item_line

variable {K : Ctx} (hF : Fix pgF K)
include hF
/-- The text of a plain program's tokens: it is read. -/
theorem Parse_text {p : Prog} {gs : List Int} (hg : ∀ b ∈ p, b.Good) (hc : check p = 0) (hcnt : count p < 4001) (hlen : (textG gs (rdP p) 0).length ≤ 100000) {st : St} (hv : VOk st) :
    Ok (K.go (.call n_parse_Parse [T (textG gs (rdP p) 0)]) st) (ParsePost st p 0 0) := by
  obtain ⟨ts, e, hl, he, hsp⟩ := split_lay (gs := gs) (items_P hg) hlen
  have hmem : ∀ b ∈ p, b.instrs.length ≤ 4000 := fun b hb => by
    have := count_mem hb
    omega
  have hpl := len_le p
  obtain ⟨S, h1, h2⟩ := PS.progL_lay (N := 4000) he p [] ts 10000 [] (fun b hb => ⟨hg b hb, hmem b hb⟩) (by simp) hl (by omega)
  refine Parse_all hF (by unfold Short; omega) hv (fun hne => by rw [hsp] at hne; exact absurd rfl hne) fun _ => ?_
  rw [hsp]
  refine ⟨10000, p, S, by omega, ?_, fun hne => absurd h2 hne, fun _ => ⟨by omega, fun b hb => (hg b hb).phis, fun h => absurd hc h, fun _ => ⟨rfl, rfl, rfl⟩⟩⟩
  have h1' : PS.progL 10000 (PS.lines ⟨ts ++ [e], 0, 0⟩) [] = some (p, S) := by simpa using h1
  exact h1'
end Go.Proofs.YtdjfndijbnpkpaaDoor.Sh

