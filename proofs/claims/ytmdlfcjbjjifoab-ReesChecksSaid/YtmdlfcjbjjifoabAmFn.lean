/- The abstract machine: what a contract of a function says of the program. -/
import Derived.Test.YtmdlfcjbjjifoabAmTypes
namespace Go.AM
open Go

def noEnv : Env := fun _ => none

/-- What is handed back. 'new': a slice whose array the callee has made and keeps nothing of. -/
def RepRc (w w' : World) (M : Msk) : AV → Value → Prop
  | .new r, v => ∃ o : Sl, v = o.val ∧ VecH noEnv w' M o 0 r [] ∧ ∀ b, o.blk = some b → w.heap.size ≤ b
  | a, v => RepG noEnv w' M a v

def RepR (w w' : World) (M : Msk) : AV → Value → Prop
  | .new r, v => RepRc w w' M (.new r) v
  | .tup l, v => ∃ cs, v = .tuple cs ∧ RepL (RepRc w w' M) l cs.toList
  | a, v => RepT noEnv w' M a v

def RetH (M : Msk) (w w' : World) (ret : AV) (v : Value) : Prop :=
  ∃ M' : Msk, (∀ b off, b < w.heap.size → (M' b off ↔ M b off)) ∧ (∀ b off, M' b off → b < w'.heap.size) ∧ RepR w w' M' ret v

def Callable (P : Program) (f : FuncId) : Prop := ∃ fn, P.funcs[f]? = some fn ∧ fn.name ≠ "runtime.NumGoroutine" ∧ fn.body.isSome = true

/-- THE CONTRACT: called with values that read as args, in whatever memory, f returns what reads as ret; nothing that was there is changed. -/
def Fn (P : Program) : FuncId → List AV → AV → Prop := fun f args ret => Callable P f ∧
  ∀ (M : Msk) (w : World) (vs : List Value), (∀ b off, M b off → b < w.heap.size) → RepL (RepT noEnv w M) args vs →
    Calls P f vs.toArray w fun e w' => ∃ v, e = .returned v ∧ Stp (fun _ _ => False) w w' ∧ RetH M w w' ret v

/-- What stands when a function is entered to which the keys of S1 are lent. -/
def lentBase (ρ : Env) (M : Msk) : Base := ⟨M, fun b => ∃ k, hasB ρ k b, ρ⟩

/-- THE CONTRACT of a function that changes memory: called where the store reads S1, with values that read as args, it leaves a store that reads S2, and what reads as ret. -/
def FnM (P : Program) : FuncId → List AV → Store → AV → Store → Prop := fun f args S1 ret S2 => Callable P f ∧
  ∀ (ρ : Env) (M : Msk) (w : World) (vs : List Value), St (lentBase ρ M) w ρ M S1 w → RepL (RepT ρ w M) args vs →
    Calls P f vs.toArray w fun e w' => ∃ v ρ' M', e = .returned v ∧ St (lentBase ρ M) w ρ' M' S2 w' ∧ RepT ρ' w' M' ret v

/-- THE CONTRACT of a function of which only a property of what it hands back is told. -/
def FnE (P : Program) : FuncId → List AV → (X : Type) → (X → AV) → (X → Prop) → Prop := fun f args X out ok => Callable P f ∧
  ∀ (M : Msk) (w : World) (vs : List Value), (∀ b off, M b off → b < w.heap.size) → RepL (RepT noEnv w M) args vs →
    Calls P f vs.toArray w fun e w' => ∃ x : X, ok x ∧ ∃ v, e = .returned v ∧ Stp (fun _ _ => False) w w' ∧ RetH M w w' (out x) v

structure SpecOk (P : Program) (F : Spec) : Prop where
  e : ∀ f as X out ok, F.e f as X out ok → FnE P f as X out ok
  q : ∀ f as r, F.q f as r → Fn P f as r
  m : ∀ f as S r S', F.m f as S r S' → FnM P f as S r S'

def specOf (P : Program) : Spec := ⟨Fn P, FnM P, FnE P⟩
theorem specOf_ok (P : Program) : SpecOk P (specOf P) := ⟨fun _ _ _ _ _ h => h, fun _ _ _ h => h, fun _ _ _ _ _ h => h⟩

/-- One operation, run: it yields a value, and a world, as R says (a call: as its callee's contract says). -/
def Runs (P : Program) (s : Sem Next) (w : World) (R : Value → World → Prop) : Prop :=
  (∃ v w', s.run P w = .ok (.value v) w' ∧ R v w') ∨ (∃ w', s.run P w = .ok .skip w' ∧ R undef w') ∨
  ∃ f args w', s.run P w = .ok (.enter f args) w' ∧ Calls P f args w' fun e w'' => ∃ v, e = .returned v ∧ R v w''

theorem Runs.wp {P : Program} {o : Oper} {a : Act} {w : World} {R : Value → World → Prop} {next : Act → World → Prop} {Q : Exit → Act → World → Prop}
    (h : Runs P (execOp a.eval o) w R) (hn : ∀ v w', R v w' → next (a.put o.dst v) w') : o.wp P a w next Q := by
  unfold Oper.wp
  rcases h with ⟨v, w', h1, h2⟩ | ⟨w', h1, h2⟩ | ⟨f, args, w', h1, h2⟩
  · rw [h1]; exact hn _ _ h2
  · rw [h1]; exact hn _ _ h2
  · rw [h1]
    refine h2.mono fun e w'' ⟨v, he, hR⟩ => ?_
    subst he
    exact hn _ _ hR

theorem Runs.mono {P : Program} {s : Sem Next} {w : World} {R R' : Value → World → Prop} (h : Runs P s w R) (hR : ∀ v w', R v w' → R' v w') : Runs P s w R' := by
  rcases h with ⟨v, w', h1, h2⟩ | ⟨w', h1, h2⟩ | ⟨f, args, w', h1, h2⟩
  · exact .inl ⟨v, w', h1, hR _ _ h2⟩
  · exact .inr (.inl ⟨w', h1, hR _ _ h2⟩)
  · exact .inr (.inr ⟨f, args, w', h1, h2.mono fun e w'' ⟨v, he, h⟩ => ⟨v, he, hR _ _ h⟩⟩)

theorem Runs.val {P : Program} {s : Sem Next} {w w' : World} {R : Value → World → Prop} {v : Value} (h : s.run P w = .ok (.value v) w') (hR : R v w') : Runs P s w R := .inl ⟨v, w', h, hR⟩

/-! ### What stands serves as what is wanted, where nothing is owned -/

theorem leA_none {w : World} {M : Msk} {a b : AV} {v : Value} (h : leA [] [] a b) : (RepT noEnv w M a v → RepT noEnv w M b v) ∧ (RepG noEnv w M a v → RepG noEnv w M b v) ∧ (b ≠ .any → RepC noEnv w M a v → RepC noEnv w M b v) := by
  have nil_ro : ∀ (r : RO), r.len = 0 → v = .slice none 0 0 → RepRO w M r v := fun r hr hv => by
    subst hv
    exact ⟨by rw [hr]; exact Nat.zero_le _, none, 0, by rw [hr], by rw [hr]; exact Nat.le_refl _, .inl (by simp [RO.cells, hr])⟩
  cases b with
  | any => exact ⟨fun _ => trivial, fun _ => trivial, fun h => absurd rfl h⟩
  | int k n =>
    cases a <;> try exact h.elim
    simp only [leA, ifK_iff] at h
    obtain ⟨h1, rfl⟩ := h
    obtain rfl := kq_eq h1
    exact ⟨id, id, fun _ => id⟩
  | bool e =>
    cases a <;> try exact h.elim
    rename_i e'
    have h : e'.val = e.val := h
    refine ⟨fun hv => ?_, fun hv => ?_, fun _ hv => ?_⟩ <;> (have hv : v = .bool e'.val := hv; exact (by rw [hv, h] : v = .bool e.val))
  | ro r =>
    cases a <;> try exact h.elim
    · have h : _ = r := h
      subst h; exact ⟨id, id, fun _ => id⟩
    · exact ⟨fun hv => nil_ro r h hv, fun hv => nil_ro r h hv, fun _ hv => nil_ro r h hv⟩
  | vec k => cases a <;> first | exact h.elim | exact h.2.1.elim
  | ptr k o => cases a <;> first | exact h.elim | exact h.2.2.1.elim
  | nils =>
    cases a <;> try exact h.elim
    exact ⟨id, id, fun _ => id⟩
  | _ => exact h.elim

theorem leL_none {w : World} {M : Msk} : ∀ {l m : List AV} {vs : List Value}, leL [] [] l m → RepL (RepC noEnv w M) l vs → RepL (RepC noEnv w M) m vs
  | [], [], _, _, h => h
  | a :: l, b :: m, v :: vs, h, hv => by
    refine ⟨?_, leL_none h.2 hv.2⟩
    by_cases hb : b = .any
    · subst hb; exact RepC.isCell hv.1
    · exact (leA_none h.1).2.2 hb hv.1
  | [], _ :: _, _, h, _ => h.elim
  | _ :: _, [], _, h, _ => h.elim
  | _ :: _, _ :: _, [], _, hv => hv.elim

theorem leG_none {w : World} {M : Msk} : ∀ {l m : List AV} {vs : List Value}, leG [] [] l m → RepL (RepG noEnv w M) l vs → RepL (RepG noEnv w M) m vs
  | [], [], _, _, h => h
  | a :: l, b :: m, v :: vs, h, hv => by
    refine ⟨?_, leG_none h.2 hv.2⟩
    have h1 := h.1
    cases b with
    | agg y =>
      cases a <;> try exact h1.elim
      obtain ⟨cs, h2, h3⟩ := hv.1
      exact ⟨cs, h2, leL_none h1 h3⟩
    | _ => exact (leA_none h1).2.1 hv.1
  | [], _ :: _, _, h, _ => h.elim
  | _ :: _, [], _, h, _ => h.elim
  | _ :: _, _ :: _, [], _, hv => hv.elim

theorem leT_none {w : World} {M : Msk} {a b : AV} {v : Value} (h : leT [] [] a b) (hv : RepT noEnv w M a v) : RepT noEnv w M b v := by
  cases b with
  | agg m =>
    cases a <;> try exact h.elim
    obtain ⟨cs, h2, h3⟩ := hv
    exact ⟨cs, h2, leL_none h h3⟩
  | tup m =>
    cases a <;> try exact h.elim
    obtain ⟨cs, h2, h3⟩ := hv
    exact ⟨cs, h2, leG_none h h3⟩
  | fn f m =>
    cases a <;> try exact h.elim
    obtain ⟨cs, h2, h3⟩ := hv
    obtain ⟨rfl, h⟩ := h
    exact ⟨cs, h2, leL_none h h3⟩
  | _ => simp only [leT] at h; exact (leA_none h).1 hv

theorem args_none {w : World} {M : Msk} : ∀ {l m : List AV} {vs : List Value}, argsK l m → RepL (RepT noEnv w M) l vs → RepL (RepT noEnv w M) m vs
  | [], [], _, _, h => h
  | _ :: _, _ :: _, _ :: _, h, hv => ⟨leT_none h.1 hv.1, args_none h.2 hv.2⟩
  | [], _ :: _, _, h, _ => h.elim
  | _ :: _, [], _, h, _ => h.elim
  | _ :: _, _ :: _, [], _, hv => hv.elim
end Go.AM
