/-
  THE ABSTRACT MACHINE, 27: without a count of rounds: what a run comes to, if it comes to anything, however many rounds it may take.
-/
import Derived.Test.YtfknooeebmdfoaaAmLaw
set_option linter.unusedVariables false
namespace Go.AM

open Classical in
noncomputable def lim {α : Type} (φ : Nat → Res α) : Res α := if h : ∃ a, ∃ N, ∀ n, N ≤ n → φ n = .ok a then .ok h.choose else .err "no end"

theorem lim_ok {α : Type} {φ : Nat → Res α} {a : α} : lim φ = .ok a ↔ ∃ N, ∀ n, N ≤ n → φ n = .ok a := by
  unfold lim
  split
  · rename_i h
    obtain ⟨N, hN⟩ := h.choose_spec
    constructor
    · intro e; cases e; exact ⟨N, hN⟩
    · rintro ⟨M, hM⟩
      have h1 := hN (max N M) (Nat.le_max_left _ _)
      rw [hM _ (Nat.le_max_right _ _)] at h1
      exact h1.symm
  · rename_i h
    constructor
    · intro e; cases e
    · intro h1; exact absurd ⟨a, h1⟩ h

noncomputable def ctxL (Γ : Funs) : Ctx := ⟨fun t st => lim fun n => runT Γ n t st, fun f e st => lim fun n => iterC f n e st⟩
def ctxN (Γ : Funs) (n : Nat) : Ctx := ctxOf (runT Γ n) n

section
variable {Γ : Funs} {α : Type}

/-- From some count of rounds on it is so. -/
def Late (p : Nat → Prop) : Prop := ∃ N, ∀ n, N ≤ n → p n
theorem Late.of {p : Nat → Prop} (h : ∀ n, p n) : Late p := ⟨0, fun n _ => h n⟩
theorem Late.and {p q : Nat → Prop} (h : Late p) (k : Late q) : Late fun n => p n ∧ q n := by
  obtain ⟨N, hN⟩ := h
  obtain ⟨M, hM⟩ := k
  exact ⟨max N M, fun n hn => ⟨hN n (Nat.le_trans (Nat.le_max_left _ _) hn), hM n (Nat.le_trans (Nat.le_max_right _ _) hn)⟩⟩
theorem Late.mono {p q : Nat → Prop} (h : Late p) (k : ∀ n, p n → q n) : Late q := h.imp fun N hN n hn => k n (hN n hn)

theorem late_oper {st st' : St} {ρ : Operand → Value} {o : AOp} {v : Value} (h : AOper.run (ctxL Γ) st ρ o = .ok (v, st')) : Late fun n => AOper.run (ctxN Γ n) st ρ o = .ok (v, st') := by
  cases o
  case call f args =>
    simp only [AOper.run, Res.bind_eq_ok] at h ⊢
    obtain ⟨t, ht, h⟩ := h
    exact (show Late _ from lim_ok.1 h).mono fun n hn => ⟨t, ht, hn⟩
  all_goals exact .of fun n => h

theorem late_ops : ∀ (l : List AOper) {e e' : Env} {st st' : St}, opsC (ctxL Γ) l e st = .ok (e', st') → Late fun n => opsC (ctxN Γ n) l e st = .ok (e', st') := by
  intro l
  induction l with
  | nil => intro e e' st st' h; exact .of fun n => h
  | cons o l ih =>
    intro e e' st st' h
    simp only [opsC, Res.bind_eq_ok] at h ⊢
    obtain ⟨b, hb, h⟩ := h
    cases b with
    | true =>
      simp only [if_true, Res.bind_eq_ok] at h
      obtain ⟨⟨v, st1⟩, h1, h⟩ := h
      exact ((late_oper h1).and (ih h)).mono fun n hn => ⟨true, hb, by simp only [if_true, Res.bind_eq_ok]; exact ⟨_, hn.1, hn.2⟩⟩
    | false => exact (ih (by simpa using h)).mono fun n hn => ⟨false, hb, by simpa using hn⟩

theorem late_draw : ∀ (l : List DOper) {sn : List St} {base : Nat} {e e' : Env} {st st' : St}, drawC (ctxL Γ) l sn base e st = .ok (e', st') → Late fun n => drawC (ctxN Γ n) l sn base e st = .ok (e', st') := by
  intro l
  induction l with
  | nil => intro sn base e e' st st' h; exact .of fun n => h
  | cons o l ih =>
    intro sn base e e' st st' h
    simp only [drawC, Res.bind_eq_ok] at h ⊢
    obtain ⟨b, hb, h⟩ := h
    cases b with
    | true =>
      simp only [if_true, Res.bind_eq_ok] at h
      obtain ⟨⟨v, st1⟩, h1, h⟩ := h
      cases hw : o.writes with
      | true =>
        simp only [hw, if_true] at h
        exact ((late_oper h1).and (ih h)).mono fun n hn => ⟨true, hb, by simp only [if_true, Res.bind_eq_ok]; exact ⟨_, hn.1, by simpa using hn.2⟩⟩
      | false =>
        simp only [hw, Bool.false_eq_true, if_false, Res.bind_eq_ok] at h
        obtain ⟨u, hu, h⟩ := h
        exact ((late_oper h1).and (ih h)).mono fun n hn => ⟨true, hb, by
          simp only [if_true, Res.bind_eq_ok]
          exact ⟨_, hn.1, by simp only [Bool.false_eq_true, if_false, Res.bind_eq_ok]; exact ⟨u, hu, hn.2⟩⟩⟩
    | false => exact (ih (by simpa using h)).mono fun n hn => ⟨false, hb, by simpa using hn⟩

theorem late_iter {F : Ctx → Env → St → Res (AExit × Env × St)} (hF : ∀ {e st r}, F (ctxL Γ) e st = .ok r → Late fun n => F (ctxN Γ n) e st = .ok r) :
    ∀ (m : Nat) {e : Env} {st : St} {r : AExit × Env × St}, iterC (F (ctxL Γ)) m e st = .ok r → Late fun n => ∀ k, m ≤ k → iterC (F (ctxN Γ n)) k e st = .ok r := by
  intro m
  induction m with
  | zero => intro e st r h; simp [iterC] at h
  | succ m ih =>
    intro e st r h
    simp only [iterC, Res.bind_eq_ok] at h
    obtain ⟨⟨x, e1, st1⟩, h1, h⟩ := h
    have h1 := hF h1
    cases x with
    | normal =>
      refine (h1.and (ih h)).mono fun n hn k hk => ?_
      obtain ⟨k, rfl⟩ : ∃ j, k = j + 1 := ⟨k - 1, by omega⟩
      simp only [iterC, hn.1, Res.bind_ok]
      exact hn.2 k (by omega)
    | exit id =>
      cases h
      refine h1.mono fun n hn k hk => ?_
      obtain ⟨k, rfl⟩ : ∃ j, k = j + 1 := ⟨k - 1, by omega⟩
      simp only [iterC, hn, Res.bind_ok, Res.pure_eq]
    | ret =>
      cases h
      refine h1.mono fun n hn k hk => ?_
      obtain ⟨k, rfl⟩ : ∃ j, k = j + 1 := ⟨k - 1, by omega⟩
      simp only [iterC, hn, Res.bind_ok, Res.pure_eq]

theorem late_code : ∀ (c : ACode) {e : Env} {st : St} {r : AExit × Env × St}, codeC (ctxL Γ) c e st = .ok r → Late fun n => codeC (ctxN Γ n) c e st = .ok r := by
  intro c
  induction c with
  | skip => intro e st r h; exact .of fun n => h
  | ops l =>
    intro e st r h
    simp only [codeC, Res.bind_eq_ok] at h ⊢
    obtain ⟨⟨e1, st1⟩, h1, h⟩ := h
    exact (late_ops l h1).mono fun n hn => ⟨_, hn, h⟩
  | draw l =>
    intro e st r h
    simp only [codeC, Res.bind_eq_ok] at h ⊢
    obtain ⟨⟨e1, st1⟩, h1, h⟩ := h
    exact (late_draw l h1).mono fun n hn => ⟨_, hn, h⟩
  | seq a b iha ihb =>
    intro e st r h
    simp only [codeC, Res.bind_eq_ok] at h ⊢
    obtain ⟨⟨x, e1, st1⟩, h1, h⟩ := h
    cases x with
    | normal => exact ((iha h1).and (ihb h)).mono fun n hn => ⟨_, hn.1, hn.2⟩
    | exit id => exact (iha h1).mono fun n hn => ⟨_, hn, h⟩
    | ret => exact (iha h1).mono fun n hn => ⟨_, hn, h⟩
  | cond c a b iha ihb =>
    intro e st r h
    simp only [codeC] at h ⊢
    split at h
    · exact (iha h).mono fun n hn => by simpa using hn
    · exact (ihb h).mono fun n hn => by simpa using hn
    · cases h
  | block id b ihb =>
    intro e st r h
    simp only [codeC, Res.bind_eq_ok] at h ⊢
    obtain ⟨⟨x, e1, st1⟩, h1, h⟩ := h
    cases x with
    | normal => exact (ihb h1).mono fun n hn => ⟨_, hn, h⟩
    | exit id => exact (ihb h1).mono fun n hn => ⟨_, hn, h⟩
    | ret => exact (ihb h1).mono fun n hn => ⟨_, hn, h⟩
  | loop b ihb =>
    intro e st r h
    obtain ⟨N, hN⟩ := lim_ok.1 h
    have := late_iter (F := fun K => codeC K b) (fun {e st r} h => ihb h) N (hN N (Nat.le_refl _))
    exact (this.and (show Late fun n => N ≤ n from ⟨N, fun n h => h⟩)).mono fun n hn => hn.1 n hn.2
  | range f ps a b =>
    intro e st r h
    simp only [codeC, Res.bind_eq_ok] at h ⊢
    obtain ⟨t, ht, u, hu, ⟨v, st1⟩, h1, h⟩ := h
    exact (show Late _ from lim_ok.1 h1).mono fun n hn => ⟨t, ht, u, hu, _, hn, h⟩
  | exit id => intro e st r h; exact .of fun n => h
  | ret => intro e st r h; exact .of fun n => h
  | keep l => intro e st r h; exact .of fun n => h
end

/-- Whatever the functions' code comes to, the calls come to. -/
structure Fix (Γ : Funs) (K : Ctx) : Prop where
  call : ∀ {f fn args st x e st1 vs}, Γ f = some fn → args.length ≤ fn.ntmps → codeC K fn.body (start args) st = .ok (x, e, st1) → (∀ id, x ≠ .exit id) → resultsC e st1 fn.results = .ok vs →
    K.go (.call f args) st = .ok (oneOf vs, st1)
  round : ∀ {l args st e ps as bd s pd e1 st1 e2 ps2 as2 bd2 pd2 x e3 st3 e4 ps4 as4 bd4 s4 pd4}, st.get l = some (.loop e ps as bd s pd) → args.length = ps.length → st.ro ≤ l →
    codeC K as (putL e ps args) st = .ok (.normal, e1, st1) → st1.get l = some (.loop e2 ps2 as2 bd2 .ready pd2) →
    codeC K bd e1 (st1.put l (.loop e2 ps2 as2 bd2 .busy pd2)) = .ok (x, e3, st3) → st3.get l = some (.loop e4 ps4 as4 bd4 s4 pd4) →
    K.go (.round l args) st = .ok (match x with | .normal => (.bool true, st3.put l (.loop e4 ps4 as4 bd4 .ready .normal)) | x => (.bool false, st3.put l (.loop e4 ps4 as4 bd4 .done x)))
  loop : ∀ {f e st r}, f e st = .ok r → (∀ e' st', r = (.normal, e', st') → ∀ r', K.loop f e' st' = .ok r' → K.loop f e st = .ok r') ∧ (r.1 ≠ .normal → K.loop f e st = .ok r)

theorem fix_lim (Γ : Funs) : Fix Γ (ctxL Γ) where
  call := by
    intro f fn args st x e st1 vs hf hl h hx hv
    refine lim_ok.2 ?_
    obtain ⟨N, hN⟩ := late_code _ h
    refine ⟨N + 1, fun n hn => ?_⟩
    obtain ⟨n, rfl⟩ : ∃ j, n = j + 1 := ⟨n - 1, by omega⟩
    have h1 := hN n (by omega)
    simp only [ctxN] at h1
    simp only [runT, hf, Res.of_some, Res.bind_ok, h1, show Res.need (decide (args.length ≤ fn.ntmps)) "too many arguments" = .ok () by simp [Res.need, hl]]
    cases x with
    | exit id => exact absurd rfl (hx id)
    | normal => simp [hv]
    | ret => simp [hv]
  round := by
    intro l args st e ps as bd s pd e1 st1 e2 ps2 as2 bd2 pd2 x e3 st3 e4 ps4 as4 bd4 s4 pd4 h0 hl hro h1 h2 h3 h4
    refine lim_ok.2 ?_
    obtain ⟨N, hN⟩ := (late_code _ h1).and (late_code _ h3)
    refine ⟨N + 1, fun n hn => ?_⟩
    obtain ⟨n, rfl⟩ : ∃ j, n = j + 1 := ⟨n - 1, by omega⟩
    obtain ⟨k1, k3⟩ := hN n (by omega)
    simp only [ctxN] at k1 k3
    simp only [runT, h0, Res.bind_ok, show Res.need (decide (args.length = ps.length)) "yield: arguments" = .ok () by simp [Res.need, hl],
      show Res.need (decide (st.ro ≤ l)) "yield: what came in" = .ok () by simp [Res.need, hro], k1, h2, k3, h4]
    cases x <;> rfl
  loop := by
    intro f e st r h
    refine ⟨fun e' st' hr r' hr' => ?_, fun hr => ?_⟩
    · subst hr
      obtain ⟨N, hN⟩ := lim_ok.1 hr'
      refine lim_ok.2 ⟨N + 1, fun n hn => ?_⟩
      obtain ⟨n, rfl⟩ : ∃ j, n = j + 1 := ⟨n - 1, by omega⟩
      simp only [iterC, h, Res.bind_ok]
      exact hN n (by omega)
    · refine lim_ok.2 ⟨1, fun n hn => ?_⟩
      obtain ⟨n, rfl⟩ : ∃ j, n = j + 1 := ⟨n - 1, by omega⟩
      obtain ⟨x, e', st'⟩ := r
      cases x with
      | normal => exact absurd rfl hr
      | exit id => simp [iterC, h]
      | ret => simp [iterC, h]

theorem run_lim {Γ : Funs} {t : Task} {st : St} {r : Value × St} (h : (ctxL Γ).go t st = .ok r) : ∃ n, runT Γ n t st = .ok r := by
  obtain ⟨N, hN⟩ := lim_ok.1 h
  exact ⟨N, hN N (Nat.le_refl _)⟩

/-! ### It comes to something, of which something holds -/

def Ok {α : Type} (x : Res α) (Q : α → Prop) : Prop := ∃ a, x = .ok a ∧ Q a
section
variable {α β : Type}
theorem ok_ok {a : α} {Q : α → Prop} : Ok (.ok a) Q ↔ Q a := ⟨(fun ⟨_, h, hq⟩ => by cases h; exact hq), fun h => ⟨a, rfl, h⟩⟩
theorem ok_err {s : String} {Q : α → Prop} : Ok (.err s : Res α) Q ↔ False := ⟨(fun ⟨_, h, _⟩ => by cases h), False.elim⟩
theorem ok_pure {a : α} {Q : α → Prop} : Ok (pure a) Q ↔ Q a := ok_ok
theorem ok_bind {x : Res α} {f : α → Res β} {Q : β → Prop} : Ok (x >>= f) Q ↔ Ok x fun a => Ok (f a) Q := by
  cases x with
  | ok a => simp only [Res.bind_ok, ok_ok]
  | err s => simp only [Res.bind_err, ok_err]
theorem Ok.mono {x : Res α} {Q R : α → Prop} (h : Ok x Q) (k : ∀ a, Q a → R a) : Ok x R := by
  obtain ⟨a, h1, h2⟩ := h
  exact ⟨a, h1, k a h2⟩
theorem Ok.bind {x : Res α} {f : α → Res β} {Q : α → Prop} {R : β → Prop} (h : Ok x Q) (k : ∀ a, Q a → Ok (f a) R) : Ok (x >>= f) R := ok_bind.2 (h.mono k)
theorem Ok.of_eq {x : Res α} {a : α} {Q : α → Prop} (h : x = .ok a) (k : Q a) : Ok x Q := ⟨a, h, k⟩
theorem ok_need {b : Bool} {s : String} {Q : Unit → Prop} : Ok (Res.need b s) Q ↔ b = true ∧ Q () := by cases b <;> simp [Res.need, ok_ok, ok_err]
theorem ok_of {x : Option α} {s : String} {Q : α → Prop} : Ok (Res.of x s) Q ↔ ∃ a, x = some a ∧ Q a := by
  cases x <;> simp [Res.of, ok_ok, ok_err]
end

/-! ### One thing behind the other -/

def condX {R : Type} (v : Value) (a b : Res R) : Res R := match v with | .bool c => bif c then a else b | _ => .err "cond"

section
variable {R : Type}
/-- What is in a slot, handed on (so that no look-up is left standing in what follows). -/
def withAt (k : Value → R) : Env → Tmp → R
  | [], _ => k nothing
  | (u, v) :: l, t => bif Nat.beq u t then k v else withAt k l t
def withOp (e : Env) (k : Value → R) : Operand → R
  | .tmp t => withAt k e t
  | .const v => bif constOk v then k v else k nothing
  | .global g => k (.pointer (some ⟨g, 0, none⟩))
  | .func f => k (.func (.func f) #[] #[])
def withOps (e : Env) : (List Value → R) → List Operand → R
  | k, [] => k []
  | k, x :: l => withOp e (fun v => withOps e (fun vs => k (v :: vs)) l) x
def keepX (e : Env) : (Env → R) → List Tmp → R
  | k, [] => k []
  | k, t :: l => withAt (fun v => keepX e (fun e' => k ((t, v) :: e')) l) e t

theorem withAt_eq (k : Value → R) : ∀ (e : Env) (t : Tmp), withAt k e t = k (e.at t) := by
  intro e
  induction e with
  | nil => intro t; rfl
  | cons x l ih =>
    intro t
    obtain ⟨u, v⟩ := x
    simp only [withAt, Env.at]
    cases Nat.beq u t
    · exact ih t
    · rfl
theorem withOp_eq (e : Env) (k : Value → R) (x : Operand) : withOp e k x = k (e.ev x) := by
  cases x with
  | tmp t => exact withAt_eq k e t
  | const v => simp only [withOp, Env.ev]; cases constOk v <;> rfl
  | global g => rfl
  | func f => rfl
theorem withOps_eq (e : Env) : ∀ (l : List Operand) (k : List Value → R), withOps e k l = k (l.map e.ev) := by
  intro l
  induction l with
  | nil => intro k; rfl
  | cons x l ih => intro k; simp only [withOps, withOp_eq, ih, List.map_cons]
theorem keepX_eq (e : Env) : ∀ (l : List Tmp) (k : Env → R), keepX e k l = k (e.keep l) := by
  intro l
  induction l with
  | nil => intro k; rfl
  | cons t l ih => intro k; simp only [keepX, withAt_eq, ih, Env.keep, Env.set]

/-- An operation, and what comes behind it. -/
def operX (K : Ctx) (k : Value → St → Res R) (e : Env) (st : St) : AOp → Res R
  | .mv x => withOp e (fun v => k v st) x
  | .iface t x => withOp e (fun v => k (.iface t v) st) x
  | .fn f a b => withOps e (fun va => withOps e (fun vb => k (.func (.func f) va.toArray vb.toArray) st) b) a
  | o => AOper.run K st e.ev o >>= fun p => k p.1 p.2
theorem operX_eq (K : Ctx) (k : Value → St → Res R) (e : Env) (st : St) (o : AOp) : operX K k e st o = AOper.run K st e.ev o >>= fun p => k p.1 p.2 := by
  cases o with
  | mv x => simp only [operX, withOp_eq]; rfl
  | iface t x => simp only [operX, withOp_eq]; rfl
  | fn f a b => simp only [operX, withOps_eq]; rfl
  | _ => rfl
end

section
variable {R : Type} (K : Ctx)

def opsX (k : Env → St → Res R) : List AOper → Env → St → Res R
  | [], e, st => k e st
  | o :: l, e, st =>
    match o.guard with
    | none => operX K (fun v st' => opsX k l (e.put o.dst v) st') e st o.op
    | some g => (wants e (some g) >>= fun b => bif b then AOper.run K st e.ev o.op else .ok (skipped, st)) >>= fun p => opsX k l (e.put o.dst p.1) p.2

def drawX (k : Env → St → Res R) : List DOper → List St → Nat → Env → St → Res R
  | [], _, _, e, st => k e st
  | d :: l, sn, base, e, st =>
    match d.o.guard, d.writes with
    | none, true => AOper.run K st e.ev d.o.op >>= fun p => drawX k l (st :: sn) p.2.next (e.put d.o.dst p.1) p.2
    | none, false => operX K (fun v st' => Res.need (Nat.beq d.back 0 || stays (sn.take d.back) base e.ev d.o.op v) "order" >>= fun _ => drawX k l sn base (e.put d.o.dst v) st') e st d.o.op
    | some g, true => (wants e (some g) >>= fun b => bif b then (AOper.run K st e.ev d.o.op >>= fun p => Res.ok (p.1, p.2, st :: sn, p.2.next)) else Res.ok (skipped, st, sn, base)) >>= fun q => drawX k l q.2.2.1 q.2.2.2 (e.put d.o.dst q.1) q.2.1
    | some g, false => (wants e (some g) >>= fun b => bif b then (AOper.run K st e.ev d.o.op >>= fun p => Res.need (Nat.beq d.back 0 || stays (sn.take d.back) base e.ev d.o.op p.1) "order" >>= fun _ => .ok p) else .ok (skipped, st)) >>=
        fun p => drawX k l sn base (e.put d.o.dst p.1) p.2

def codeX : ACode → (AExit → Env → St → Res R) → Env → St → Res R
  | .skip, k => k .normal
  | .ops l, k => opsX K (k .normal) l
  | .draw l, k => fun e st => drawX K (k .normal) l [] st.next e st
  | .seq a b, k => codeX a fun x => match x with | .normal => codeX b k | x => k x
  | .cond c a b, k => fun e st => condX (e.ev c) (codeX a k e st) (codeX b k e st)
  | .block id b, k => codeX b fun x => match x with | .exit j => k (bif Nat.beq j id then .normal else .exit j) | x => k x
  | .loop b, k => fun e st => K.loop (codeC K b) e st >>= fun r => k r.1 r.2.1 r.2.2
  | .range f ps a b, k => fun e st =>
    taskOf (e.ev f) [.func (.yield st.next) #[] #[]] >>= fun t => Res.need t.isCall "range: no function" >>= fun _ => K.go t (st.alloc (.loop e ps a b .ready .normal)) >>= fun p =>
    match p.2.get st.next with
    | some (.loop _ _ _ _ state pend) => Res.need (state != .busy) "range" >>= fun _ => k pend e (p.2.put st.next .dead)
    | _ => .err "range: the loop is gone"
  | .exit id, k => k (.exit id)
  | .ret, k => k .ret
  | .keep l, k => fun e st => keepX e (fun e' => k .normal e' st) l

inductive Frame where
  | seq (b : ACode)
  | block (id : Nat)
  | loop (b : ACode)

/-- What comes behind. -/
def kOf (k : AExit → Env → St → Res R) : List Frame → AExit → Env → St → Res R
  | [] => k
  | .seq b :: ks => fun x => match x with | .normal => codeX K b (kOf k ks) | x => kOf k ks x
  | .block id :: ks => fun x => match x with | .exit j => kOf k ks (bif Nat.beq j id then .normal else .exit j) | x => kOf k ks x
  | .loop b :: ks => fun x => match x with | .normal => (fun e st => K.loop (codeC K b) e st >>= fun r => kOf k ks r.1 r.2.1 r.2.2) | x => kOf k ks x
end

/-- A place in code: 0 | 1: into the first part, the second. -/
def posC : ACode → List Nat → ACode
  | c, [] => c
  | .seq a _, 0 :: p => posC a p
  | .seq _ b, _ :: p => posC b p
  | .cond _ a _, 0 :: p => posC a p
  | .cond _ _ b, _ :: p => posC b p
  | .block _ b, _ :: p => posC b p
  | .loop b, _ :: p => posC b p
  | .range _ _ a _, 0 :: p => posC a p
  | .range _ _ _ b, _ :: p => posC b p
  | c, _ => c

def posK : ACode → List Nat → List Frame → List Frame
  | _, [], ks => ks
  | .seq a b, 0 :: p, ks => posK a p (.seq b :: ks)
  | .seq _ b, _ :: p, ks => posK b p ks
  | .cond _ a _, 0 :: p, ks => posK a p ks
  | .cond _ _ b, _ :: p, ks => posK b p ks
  | .block id b, _ :: p, ks => posK b p (.block id :: ks)
  | .loop b, _ :: p, ks => posK b p (.loop b :: ks)
  | .range _ _ a _, 0 :: p, _ => posK a p []
  | .range _ _ _ b, _ :: p, _ => posK b p []
  | _, _, ks => ks

abbrev envT (l : List (Nat × Value)) : Env := l

def retK (rs : List ARes) : AExit → Env → St → Res (Value × St)
  | .exit _, _, _ => .err "exit: no such block"
  | _, e, st => resultsC e st rs >>= fun vs => .ok (oneOf vs, st)

section
variable {R : Type} (K : Ctx) (J : List Frame → Env → St → Res R) (fin : AExit → Env → St → Res R)
/-- Code, up to the places where ways meet: on from there it goes as J says. -/
def codeJ : ACode → (AExit → Env → St → Res R) → List Frame → Env → St → Res R
  | .skip, k, _ => k .normal
  | .ops l, k, _ => opsX K (k .normal) l
  | .draw l, k, _ => fun e st => drawX K (k .normal) l [] st.next e st
  | .seq a b, k, ks =>
    match a, b with
    | .keep l, .loop c => fun e st => keepX e (fun e' => J (.loop c :: ks) e' st) l
    | a', b' => codeJ a (fun x => match x with | .normal => codeJ b k ks | x => k x) (.seq b :: ks)
  | .cond c a b, k, ks => fun e st => condX (e.ev c) (codeJ a k ks e st) (codeJ b k ks e st)
  | .block id b, k, ks => codeJ b (fun x => match x with | .exit j => k (bif Nat.beq j id then .normal else .exit j) | x => k x) (.block id :: ks)
  | .loop b, _, ks => fun e st => J (.loop b :: ks) e st
  | .range f ps a b, k, _ => fun e st =>
    taskOf (e.ev f) [.func (.yield st.next) #[] #[]] >>= fun t => Res.need t.isCall "range: no function" >>= fun _ => K.go t (st.alloc (.loop e ps a b .ready .normal)) >>= fun p =>
    match p.2.get st.next with
    | some (.loop _ _ _ _ state pend) => Res.need (state != .busy) "range" >>= fun _ => k pend e (p.2.put st.next .dead)
    | _ => .err "range: the loop is gone"
  | .exit id, k, _ => k (.exit id)
  | .ret, k, _ => k .ret
  | .keep l, _, ks => fun e st => keepX e (fun e' => J ks e' st) l

def kJ : List Frame → AExit → Env → St → Res R
  | [] => fin
  | .seq b :: ks => fun x => match x with | .normal => codeJ K J b (kJ ks) ks | x => kJ ks x
  | .block id :: ks => fun x => match x with | .exit j => kJ ks (bif Nat.beq j id then .normal else .exit j) | x => kJ ks x
  | .loop b :: ks => fun x => match x with | .normal => J (.loop b :: ks) | x => kJ ks x
end

/-- J is what it is said to be. -/
def IsJ {R : Type} (K : Ctx) (fin : AExit → Env → St → Res R) (J : List Frame → Env → St → Res R) : Prop := ∀ ks e st, J ks e st = kOf K fin ks .normal e st

/-- A function, from its beginning. -/
def atX (K : Ctx) (J : List Frame → Env → St → Res (Value × St)) (fn : AFun) (e : Env) (st : St) : Res (Value × St) := codeJ K J fn.body (retK fn.results) [] e st
/-- From a place in code on (behind a keep). -/
def goX {R : Type} (J : List Frame → Env → St → Res R) (c : ACode) (p : List Nat) (e : Env) (st : St) : Res R := J (.seq (posC c p) :: posK c p []) e st
def bodyL : ACode → ACode
  | .loop b => b
  | c => c
/-- From a loop's head on. -/
def lpX {R : Type} (J : List Frame → Env → St → Res R) (c : ACode) (p : List Nat) (e : Env) (st : St) : Res R := J (.loop (bodyL (posC c p)) :: posK c p []) e st
/-- From a place on, as its code says. -/
def onX {R : Type} (K : Ctx) (J : List Frame → Env → St → Res R) (fin : AExit → Env → St → Res R) (c : ACode) (p : List Nat) (e : Env) (st : St) : Res R :=
  codeJ K J (posC c p) (kJ K J fin (posK c p [])) (posK c p []) e st
/-- Within a loop. -/
def inX {R : Type} (K : Ctx) (J : List Frame → Env → St → Res R) (fin : AExit → Env → St → Res R) (c : ACode) (p : List Nat) (e : Env) (st : St) : Res R :=
  codeJ K J (bodyL (posC c p)) (kJ K J fin (.loop (bodyL (posC c p)) :: posK c p [])) (.loop (bodyL (posC c p)) :: posK c p []) e st

section
variable {R : Type} {K : Ctx}

theorem opsX_eq (k : Env → St → Res R) : ∀ (l : List AOper) (e : Env) (st : St), opsX K k l e st = opsC K l e st >>= fun r => k r.1 r.2 := by
  intro l
  induction l with
  | nil => intro e st; rfl
  | cons o l ih =>
    intro e st
    obtain ⟨dst, guard, op⟩ := o
    cases guard with
    | none =>
      simp only [opsX, opsC, wants, Res.bind_ok, if_true, operX_eq]
      cases AOper.run K st e.ev op with
      | err s => rfl
      | ok p => simp only [Res.bind_ok]; exact ih _ _
    | some g =>
      simp only [opsX, opsC]
      cases wants e (some g) with
      | err s => rfl
      | ok b =>
        simp only [Res.bind_ok]
        cases b with
        | false => simp only [cond_false, Res.bind_ok, Bool.false_eq_true, if_false]; exact ih _ _
        | true =>
          simp only [cond_true, if_true]
          cases AOper.run K st e.ev op with
          | err s => rfl
          | ok p => simp only [Res.bind_ok]; exact ih _ _

theorem drawX_eq (k : Env → St → Res R) : ∀ (l : List DOper) (sn : List St) (base : Nat) (e : Env) (st : St), drawX K k l sn base e st = drawC K l sn base e st >>= fun r => k r.1 r.2 := by
  intro l
  induction l with
  | nil => intro sn base e st; rfl
  | cons d l ih =>
    intro sn base e st
    obtain ⟨ix, back, writes, dst, guard, op⟩ := d
    have hb : Nat.beq back 0 = decide (back = 0) := by cases back <;> rfl
    cases guard with
    | none =>
      cases writes with
      | true =>
        simp only [drawX, drawC, wants, Res.bind_ok, if_true]
        cases AOper.run K st e.ev op with
        | err s => rfl
        | ok p => simp only [Res.bind_ok]; exact ih _ _ _ _
      | false =>
        simp only [drawX, drawC, wants, Res.bind_ok, if_true, Bool.false_eq_true, if_false, operX_eq]
        cases AOper.run K st e.ev op with
        | err s => rfl
        | ok p =>
          simp only [Res.bind_ok, hb]
          cases (Res.need (decide (back = 0) || stays (sn.take back) base e.ev op p.1) "order") with
          | err s => rfl
          | ok u => simp only [Res.bind_ok]; exact ih _ _ _ _
    | some g =>
      cases writes with
      | true =>
        simp only [drawX, drawC]
        cases wants e (some g) with
        | err s => rfl
        | ok b =>
          simp only [Res.bind_ok]
          cases b with
          | false => simp only [cond_false, Res.bind_ok, Bool.false_eq_true, if_false]; exact ih _ _ _ _
          | true =>
            simp only [cond_true, if_true]
            cases AOper.run K st e.ev op with
            | err s => rfl
            | ok p => simp only [Res.bind_ok]; exact ih _ _ _ _
      | false =>
        simp only [drawX, drawC]
        cases wants e (some g) with
        | err s => rfl
        | ok b =>
          simp only [Res.bind_ok]
          cases b with
          | false => simp only [cond_false, Res.bind_ok, Bool.false_eq_true, if_false]; exact ih _ _ _ _
          | true =>
            simp only [cond_true, if_true, Bool.false_eq_true, if_false]
            cases AOper.run K st e.ev op with
            | err s => rfl
            | ok p =>
              simp only [Res.bind_ok, hb]
              cases (Res.need (decide (back = 0) || stays (sn.take back) base e.ev op p.1) "order") with
              | err s => rfl
              | ok u => simp only [Res.bind_ok]; exact ih _ _ _ _

theorem codeX_eq : ∀ (c : ACode) (k : AExit → Env → St → Res R) (e : Env) (st : St), codeX K c k e st = codeC K c e st >>= fun r => k r.1 r.2.1 r.2.2 := by
  intro c
  induction c with
  | skip => intro k e st; rfl
  | ops l =>
    intro k e st
    simp only [codeX, codeC, opsX_eq]
    cases opsC K l e st <;> rfl
  | draw l =>
    intro k e st
    simp only [codeX, codeC, drawX_eq]
    cases drawC K l [] st.next e st <;> rfl
  | seq a b iha ihb =>
    intro k e st
    simp only [codeX, codeC, iha]
    cases codeC K a e st with
    | err s => rfl
    | ok r =>
      obtain ⟨x, e1, st1⟩ := r
      cases x with
      | normal => exact ihb _ _ _
      | exit id => rfl
      | ret => rfl
  | cond c a b iha ihb =>
    intro k e st
    simp only [codeX, codeC, condX, iha, ihb]
    split
    · rename_i c' hc
      cases c' <;> simp [hc]
    · rename_i hc
      split
      · rename_i h; exact absurd h (hc true)
      · rename_i h; exact absurd h (hc false)
      · rfl
  | block id b ihb =>
    intro k e st
    simp only [codeX, codeC, ihb]
    cases codeC K b e st with
    | err s => rfl
    | ok r =>
      obtain ⟨x, e1, st1⟩ := r
      cases x with
      | normal => rfl
      | ret => rfl
      | exit j =>
        simp only [Res.bind_ok, Res.pure_eq]
        by_cases h : j = id
        · subst h; simp
        · have : Nat.beq j id = false := by
            cases hb : Nat.beq j id with
            | false => rfl
            | true => exact absurd (Nat.eq_of_beq_eq_true hb) h
          simp [h, this]
  | loop b ihb => intro k e st; rfl
  | range f ps a b =>
    intro k e st
    simp only [codeX, codeC]
    cases taskOf (e.ev f) [.func (.yield st.next) #[] #[]] with
    | err s => rfl
    | ok t =>
      simp only [Res.bind_ok]
      cases Res.need t.isCall "range: no function" with
      | err s => rfl
      | ok u =>
        simp only [Res.bind_ok]
        cases K.go t (st.alloc (.loop e ps a b .ready .normal)) with
        | err s => rfl
        | ok p =>
          simp only [Res.bind_ok]
          cases hg : p.2.get st.next with
          | none => rfl
          | some o =>
            cases o with
            | loop e2 ps2 a2 b2 s2 pd2 =>
              simp only []
              cases Res.need (s2 != LoopState.busy) "range" <;> rfl
            | _ => rfl
  | exit id => intro k e st; rfl
  | ret => intro k e st; rfl
  | keep l => intro k e st; exact keepX_eq e l _

theorem kOf_loop {k : AExit → Env → St → Res R} {b : ACode} {ks : List Frame} (x : AExit) (e : Env) (st : St) :
    kOf K k (.loop b :: ks) x e st = match x with | .normal => codeX K (.loop b) (kOf K k ks) e st | x => kOf K k ks x e st := by cases x <;> rfl

theorem codeJ_eq {J : List Frame → Env → St → Res R} {fin : AExit → Env → St → Res R} (hJ : IsJ K fin J) : ∀ (c : ACode) {k : AExit → Env → St → Res R} {ks : List Frame} (hk : ∀ x e st, k x e st = kOf K fin ks x e st) (e : Env) (st : St),
    codeJ K J c k ks e st = codeC K c e st >>= fun r => kOf K fin ks r.1 r.2.1 r.2.2 := by
  intro c
  induction c with
  | skip => intro k ks hk e st; exact hk _ _ _
  | ops l =>
    intro k ks hk e st
    simp only [codeJ, codeC, opsX_eq]
    cases opsC K l e st with
    | err s => rfl
    | ok r => exact hk _ _ _
  | draw l =>
    intro k ks hk e st
    simp only [codeJ, codeC, drawX_eq]
    cases drawC K l [] st.next e st with
    | err s => rfl
    | ok r => exact hk _ _ _
  | seq a b iha ihb =>
    intro k ks hk e st
    have hk' : ∀ x e st, (match x with | .normal => codeJ K J b k ks | x => k x) e st = kOf K fin (.seq b :: ks) x e st := by
      intro x e st
      cases x with
      | normal => simp only [kOf]; rw [ihb hk, codeX_eq]
      | exit id => exact hk _ _ _
      | ret => exact hk _ _ _
    have main : codeJ K J a (fun x => match x with | .normal => codeJ K J b k ks | x => k x) (.seq b :: ks) e st = codeC K (.seq a b) e st >>= fun r => kOf K fin ks r.1 r.2.1 r.2.2 := by
      rw [iha hk']
      simp only [codeC]
      cases codeC K a e st with
      | err s => rfl
      | ok r =>
        obtain ⟨x, e1, st1⟩ := r
        cases x with
        | normal => simp only [Res.bind_ok, kOf, codeX_eq]
        | exit id => rfl
        | ret => rfl
    simp only [codeJ]
    split
    · simp only [keepX_eq, codeC, Res.bind_ok]
      rw [hJ]; rfl
    · exact main
  | cond c a b iha ihb =>
    intro k ks hk e st
    simp only [codeJ, codeC, condX, iha hk, ihb hk]
    split
    · rename_i c' hc
      cases c' <;> simp [hc]
    · rename_i hc
      split
      · rename_i h; exact absurd h (hc true)
      · rename_i h; exact absurd h (hc false)
      · rfl
  | block id b ihb =>
    intro k ks hk e st
    have hk' : ∀ x e st, (match x with | .exit j => k (bif Nat.beq j id then .normal else .exit j) | x => k x) e st = kOf K fin (.block id :: ks) x e st := by
      intro x e st
      cases x <;> exact hk _ _ _
    simp only [codeJ, codeC]
    rw [ihb hk']
    cases codeC K b e st with
    | err s => rfl
    | ok r =>
      obtain ⟨x, e1, st1⟩ := r
      cases x with
      | normal => rfl
      | ret => rfl
      | exit j =>
        simp only [Res.bind_ok, Res.pure_eq, kOf]
        by_cases h : j = id
        · subst h; simp
        · simp [h, beq_false h]
  | loop b ihb =>
    intro k ks hk e st
    simp only [codeJ, codeC]
    rw [hJ]; rfl
  | range f ps a b =>
    intro k ks hk e st
    simp only [codeJ, codeC]
    cases taskOf (e.ev f) [.func (.yield st.next) #[] #[]] with
    | err s => rfl
    | ok t =>
      simp only [Res.bind_ok]
      cases Res.need t.isCall "range: no function" with
      | err s => rfl
      | ok u =>
        simp only [Res.bind_ok]
        cases K.go t (st.alloc (.loop e ps a b .ready .normal)) with
        | err s => rfl
        | ok p =>
          simp only [Res.bind_ok]
          cases hg : p.2.get st.next with
          | none => rfl
          | some o =>
            cases o with
            | loop e2 ps2 a2 b2 s2 pd2 =>
              simp only []
              cases Res.need (s2 != LoopState.busy) "range" with
              | err s => rfl
              | ok u => exact hk _ _ _
            | _ => rfl
  | exit id => intro k ks hk e st; exact hk _ _ _
  | ret => intro k ks hk e st; exact hk _ _ _
  | keep l => intro k ks hk e st; simp only [codeJ, keepX_eq]; rw [hJ]; rfl

theorem kJ_eq {J : List Frame → Env → St → Res R} {fin : AExit → Env → St → Res R} (hJ : IsJ K fin J) : ∀ (ks : List Frame) (x : AExit) (e : Env) (st : St), kJ K J fin ks x e st = kOf K fin ks x e st := by
  intro ks
  induction ks with
  | nil => intro x e st; rfl
  | cons f ks ih =>
    intro x e st
    cases f with
    | seq b =>
      cases x with
      | normal => simp only [kJ, kOf]; rw [codeJ_eq hJ b ih, codeX_eq]
      | exit id => exact ih _ _ _
      | ret => exact ih _ _ _
    | block id => cases x <;> exact ih _ _ _
    | loop b =>
      cases x with
      | normal => exact hJ _ _ _
      | exit id => exact ih _ _ _
      | ret => exact ih _ _ _

/-- From a place on it goes as its code says. -/
theorem go_eq {J : List Frame → Env → St → Res R} {fin : AExit → Env → St → Res R} (hJ : IsJ K fin J) (c : ACode) (p : List Nat) (e : Env) (st : St) : goX J c p e st = onX K J fin c p e st := by
  unfold goX onX
  rw [codeJ_eq hJ _ (kJ_eq hJ _), hJ]
  simp only [kOf, codeX_eq]

variable {Γ : Funs} {Q : Value × St → Prop}

theorem call_of (hF : Fix Γ K) {f : FuncId} {fn : AFun} {args : List Value} {st : St} (hf : Γ f = some fn) (hl : Nat.ble args.length fn.ntmps = true) (h : ∀ J, IsJ K (retK fn.results) J → Ok (atX K J fn (start args) st) Q) : Ok (K.go (.call f args) st) Q := by
  obtain ⟨r, h, hq⟩ := h (fun ks => kOf K (retK fn.results) ks .normal) (fun _ _ _ => rfl)
  unfold atX at h
  rw [codeJ_eq (fin := retK fn.results) (k := retK fn.results) (ks := []) (fun _ _ _ => rfl) fn.body (fun _ _ _ => rfl)] at h
  simp only [Res.bind_eq_ok] at h
  obtain ⟨⟨x, e, st1⟩, h1, h⟩ := h
  have hl : args.length ≤ fn.ntmps := Nat.le_of_ble_eq_true hl
  have hne : ∀ id, x ≠ .exit id := fun id e => by subst e; simp [kOf, retK] at h
  have hk : kOf K (retK fn.results) [] x e st1 = (resultsC e st1 fn.results >>= fun vs => .ok (oneOf vs, st1)) := by
    cases x with
    | exit id => exact absurd rfl (hne id)
    | normal => rfl
    | ret => rfl
  rw [hk, Res.bind_eq_ok] at h
  obtain ⟨vs, hvs, h⟩ := h
  cases h
  exact ⟨_, hF.call hf hl h1 hne hvs, hq⟩

theorem loop_of {R : Type} {Q : R → Prop} (hF : Fix Γ K) {J : List Frame → Env → St → Res R} {fin : AExit → Env → St → Res R} (hJ : IsJ K fin J) {c : ACode} {p : List Nat} {e : Env} {st : St} (h : Ok (inX K J fin c p e st) Q) : Ok (lpX J c p e st) Q := by
  obtain ⟨r, h, hq⟩ := h
  unfold inX at h
  unfold lpX
  generalize posK c p [] = ks at *
  generalize bodyL (posC c p) = b at *
  refine ⟨r, ?_, hq⟩
  rw [codeJ_eq hJ _ (kJ_eq hJ _), Res.bind_eq_ok] at h
  obtain ⟨⟨x, e1, st1⟩, h1, h⟩ := h
  obtain ⟨ha, hb⟩ := hF.loop (f := codeC K b) h1
  rw [kOf_loop] at h
  rw [hJ, kOf_loop]
  simp only [codeX, Res.bind_eq_ok]
  cases x with
  | normal =>
    simp only [codeX, Res.bind_eq_ok] at h
    obtain ⟨r1, h2, h⟩ := h
    exact ⟨r1, ha e1 st1 rfl r1 h2, h⟩
  | exit id => exact ⟨_, hb (by simp), h⟩
  | ret => exact ⟨_, hb (by simp), h⟩
end
end Go.AM
