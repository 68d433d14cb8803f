import Derived.Test.YtpanlghofeebhaaAmTy
import Derived.Test.YtpanlghofeebhaaProg
import Derived.Test.YtpanlghofeebhaaAmRet
section
/- The abstract machine over this program: its types; from obligations to contracts. -/
namespace Go.Proofs.Ytpanlghofeebhaa
open Go Go.AM
set_option maxRecDepth 100000
theorem tyOk : TyOk Try.prog TY := tyOk_of (by decide +kernel) (by decide +kernel) (by decide +kernel)
theorem mixed : Try.prog.follows .mixedOrders = true := by decide +kernel
abbrev SP : Go.AM.Spec := specOf Try.prog
abbrev QF (f : FuncId) (args : List AV) (ret : AV) : Prop := Go.AM.Fn Try.prog f args ret
abbrev EF (f : FuncId) (args : List AV) {X : Type} (out : X → AV) (ok : X → Prop) : Prop := Go.AM.FnE Try.prog f args X out ok
abbrev MF (f : FuncId) (args : List AV) (S1 : Store) (ret : AV) (S2 : Store) : Prop := Go.AM.FnM Try.prog f args S1 ret S2
abbrev NF (f : FuncId) (args : List AV) (S1 : Store) {X : Type} (ret : X → AV) (S2 : X → Store) (ok : X → Prop) : Prop := Go.AM.FnN Try.prog f args S1 X ret S2 ok
theorem mkQ {f : FuncId} {fn : Func} {args : List AV} {ret : AV} (hf : Try.prog.funcs[f]? = some fn) (hn : fn.name ≠ "runtime.NumGoroutine") (hb : fn.body.isSome = true) (hl : args.length ≤ fn.ntmps)
    (h : factsL args → fnK TY SP fn args ret) : QF f args ret := fn_of_ex tyOk (specOf_ok _) mixed hf hn hb hl h
theorem mkE {f : FuncId} {fn : Func} {args : List AV} {X : Type} {out : X → AV} {ok : X → Prop} (hf : Try.prog.funcs[f]? = some fn) (hn : fn.name ≠ "runtime.NumGoroutine") (hb : fn.body.isSome = true) (hl : args.length ≤ fn.ntmps)
    (h : factsL args → fnEK TY SP fn args out ok) : EF f args out ok := fnE_of_ex tyOk (specOf_ok _) mixed hf hn hb hl h
theorem mkM {f : FuncId} {fn : Func} {args : List AV} {S1 S2 : Store} {ret : AV} (hf : Try.prog.funcs[f]? = some fn) (hn : fn.name ≠ "runtime.NumGoroutine") (hb : fn.body.isSome = true) (hl : args.length ≤ fn.ntmps)
    (h : factsL args → fnMK TY SP fn args S1 ret S2) : MF f args S1 ret S2 := fnM_of_ex tyOk (specOf_ok _) mixed hf hn hb hl h
theorem mkN {f : FuncId} {fn : Func} {args : List AV} {S1 : Store} {X : Type} {ret : X → AV} {S2 : X → Store} {ok : X → Prop} (hf : Try.prog.funcs[f]? = some fn) (hn : fn.name ≠ "runtime.NumGoroutine") (hb : fn.body.isSome = true) (hl : args.length ≤ fn.ntmps)
    (h : factsL args → fnNK TY SP fn args S1 X ret S2 ok) : NF f args S1 ret S2 ok := fnN_of_ex tyOk (specOf_ok _) mixed hf hn hb hl h
theorem getD_mem {α : Type} {l : List α} {i : Nat} {d : α} (h : i < l.length) : l.getD i d ∈ l := by
  simp [List.getD, h]
theorem getD_eq {α : Type} {l : List α} {i : Nat} {d : α} (h : i < l.length) : l.getD i d = l[i] := by
  simp [List.getD, h]
theorem getD_set_ne {α : Type} {l : List α} {i j : Nat} {a d : α} (h : i ≠ j) : (l.set i a).getD j d = l.getD j d := by
  simp [List.getD, List.getElem?_set_ne h]
theorem getD_set_eq {α : Type} {l : List α} {i : Nat} {a d : α} (h : i < l.length) : (l.set i a).getD i d = a := by
  simp [List.getD, h]
theorem mem_getD {α : Type} {l : List α} {x : α} (d : α) (h : x ∈ l) : ∃ i, i < l.length ∧ l.getD i d = x := by
  obtain ⟨i, hi, e⟩ := List.mem_iff_getElem.1 h
  exact ⟨i, hi, by rw [getD_eq hi, e]⟩
theorem lp {X : Type} (U : X → List (Nat × AV)) (V : X → Store) (ok : X → Prop) (μ : X → Nat) (x0 : X) {E : (Y : Type) → (Y → List (Nat × AV)) → (Y → Store) → (Y → Prop) → (Y → Nat) → Y → Prop} {B : (Y : Type) → (Y → List (Nat × AV)) → (Y → Store) → (Y → Prop) → (Y → Nat) → Y → Prop}
    (h0 : ok x0) (h1 : E X U V ok μ x0) (h2 : ∀ x, ok x → B X U V ok μ x) :
    ∃ (X : Type) (U : X → List (Nat × AV)) (V : X → Store) (ok : X → Prop) (μ : X → Nat) (x0 : X), (ok x0 ∧ E X U V ok μ x0) ∧ ∀ x, ok x → B X U V ok μ x :=
  ⟨X, U, V, ok, μ, x0, ⟨h0, h1⟩, h2⟩
abbrev un2 {A B : Type} {γ : Sort _} (f : A → B → γ) (p : A × B) : γ := match p with | (a, b) => f a b
abbrev un3 {A B C : Type} {γ : Sort _} (f : A → B → C → γ) (p : A × B × C) : γ := match p with | (a, b, c) => f a b c
abbrev un4 {A B C D : Type} {γ : Sort _} (f : A → B → C → D → γ) (p : A × B × C × D) : γ := match p with | (a, b, c, d) => f a b c d
theorem lp2 {A B : Type} (U : A → B → List (Nat × AV)) (V : A → B → Store) (ok : A → B → Prop) (μ : A → B → Nat) (a0 : A) (b0 : B) {E Bd : (Y : Type) → (Y → List (Nat × AV)) → (Y → Store) → (Y → Prop) → (Y → Nat) → Y → Prop}
    (h0 : ok a0 b0) (h1 : E (A × B) (un2 U) (un2 V) (un2 ok) (un2 μ) (a0, b0)) (h2 : ∀ a b, ok a b → Bd (A × B) (un2 U) (un2 V) (un2 ok) (un2 μ) (a, b)) :
    ∃ (X : Type) (U : X → List (Nat × AV)) (V : X → Store) (ok : X → Prop) (μ : X → Nat) (x0 : X), (ok x0 ∧ E X U V ok μ x0) ∧ ∀ x, ok x → Bd X U V ok μ x :=
  ⟨A × B, un2 U, un2 V, un2 ok, un2 μ, (a0, b0), ⟨h0, h1⟩, fun (a, b) h => h2 a b h⟩
theorem lp3 {A B C : Type} (U : A → B → C → List (Nat × AV)) (V : A → B → C → Store) (ok : A → B → C → Prop) (μ : A → B → C → Nat) (a0 : A) (b0 : B) (c0 : C) {E Bd : (Y : Type) → (Y → List (Nat × AV)) → (Y → Store) → (Y → Prop) → (Y → Nat) → Y → Prop}
    (h0 : ok a0 b0 c0) (h1 : E (A × B × C) (un3 U) (un3 V) (un3 ok) (un3 μ) (a0, b0, c0)) (h2 : ∀ a b c, ok a b c → Bd (A × B × C) (un3 U) (un3 V) (un3 ok) (un3 μ) (a, b, c)) :
    ∃ (X : Type) (U : X → List (Nat × AV)) (V : X → Store) (ok : X → Prop) (μ : X → Nat) (x0 : X), (ok x0 ∧ E X U V ok μ x0) ∧ ∀ x, ok x → Bd X U V ok μ x :=
  ⟨A × B × C, un3 U, un3 V, un3 ok, un3 μ, (a0, b0, c0), ⟨h0, h1⟩, fun (a, b, c) h => h2 a b c h⟩
theorem lp4 {A B C D : Type} (U : A → B → C → D → List (Nat × AV)) (V : A → B → C → D → Store) (ok : A → B → C → D → Prop) (μ : A → B → C → D → Nat) (a0 : A) (b0 : B) (c0 : C) (d0 : D) {E Bd : (Y : Type) → (Y → List (Nat × AV)) → (Y → Store) → (Y → Prop) → (Y → Nat) → Y → Prop}
    (h0 : ok a0 b0 c0 d0) (h1 : E (A × B × C × D) (un4 U) (un4 V) (un4 ok) (un4 μ) (a0, b0, c0, d0)) (h2 : ∀ a b c d, ok a b c d → Bd (A × B × C × D) (un4 U) (un4 V) (un4 ok) (un4 μ) (a, b, c, d)) :
    ∃ (X : Type) (U : X → List (Nat × AV)) (V : X → Store) (ok : X → Prop) (μ : X → Nat) (x0 : X), (ok x0 ∧ E X U V ok μ x0) ∧ ∀ x, ok x → Bd X U V ok μ x :=
  ⟨A × B × C × D, un4 U, un4 V, un4 ok, un4 μ, (a0, b0, c0, d0), ⟨h0, h1⟩, fun (a, b, c, d) h => h2 a b c d h⟩
theorem cm {f : FuncId} (fz : List Nat) (σ : List (Nat × Nat)) {S1 : Store} {as2 : List AV} {ret : AV} {S2 : Store} (h : MF f as2 S1 ret S2) {Q : Prop} {R : List Nat → List (Nat × Nat) → Store → List AV → AV → Store → Prop} (hr : R fz σ S1 as2 ret S2) :
    (∃ (fz : List Nat) (σ : List (Nat × Nat)) (S1 : Store) (as2 : List AV) (ret : AV) (S2 : Store), SP.m f as2 S1 ret S2 ∧ R fz σ S1 as2 ret S2) ∨ Q := Or.inl ⟨fz, σ, S1, as2, ret, S2, h, hr⟩
theorem cn {f : FuncId} (fz : List Nat) (σ : List (Nat × Nat)) {S1 : Store} {as2 : List AV} {X : Type} {ret : X → AV} {S2 : X → Store} {ok : X → Prop} (h : NF f as2 S1 ret S2 ok) {Q : Prop} {R : List Nat → List (Nat × Nat) → Store → List AV → (X : Type) → (X → AV) → (X → Store) → (X → Prop) → Prop} (hr : R fz σ S1 as2 X ret S2 ok) :
    Q ∨ ∃ (fz : List Nat) (σ : List (Nat × Nat)) (S1 : Store) (as2 : List AV) (X : Type) (ret : X → AV) (S2 : X → Store) (ok : X → Prop), SP.n f as2 S1 X ret S2 ok ∧ R fz σ S1 as2 X ret S2 ok := Or.inr ⟨fz, σ, S1, as2, X, ret, S2, ok, h, hr⟩
theorem cq {f : FuncId} {as2 : List AV} {ret : AV} (h : QF f as2 ret) {R Q : List AV → AV → Prop} (ha : R as2 ret) (hr : Q as2 ret) : ∃ (as2 : List AV) (ret : AV), SP.q f as2 ret ∧ R as2 ret ∧ Q as2 ret := ⟨as2, ret, h, ha, hr⟩
theorem ce {f : FuncId} {as2 : List AV} {X : Type} {out : X → AV} {ok : X → Prop} (h : EF f as2 out ok) {R : List AV → Prop} {Q : (X : Type) → (X → AV) → X → Prop} (ha : R as2) (hr : ∀ x, ok x → Q X out x) :
    ∃ (X : Type) (as2 : List AV) (out : X → AV) (ok : X → Prop), SP.e f as2 X out ok ∧ R as2 ∧ ∀ x, ok x → Q X out x := ⟨X, as2, out, ok, h, ha, hr⟩
theorem nx {X : Type} {ok : X → Prop} {μ : X → Nat} {m : Nat} {T3 T0 : List AV} {R : X → Prop} (x' : X) (h1 : ok x') (h2 : μ x' < m) (h4 : R x') (h3 : T3 = T0 := by rfl) : ∃ x', (ok x' ∧ μ x' < m) ∧ T3 = T0 ∧ R x' := ⟨x', ⟨h1, h2⟩, h3, h4⟩
end Go.Proofs.Ytpanlghofeebhaa
end
section
/- Partitions as lists: the canonical numbering, its laws. Plain; no program. -/
namespace Go.Proofs.Ytpanlghofeebhaa
open Go Go.AM
section
variable {α β : Type} [DecidableEq α] [DecidableEq β]
def addNew (acc : List α) (x : α) : List α := if x ∈ acc then acc else acc ++ [x]
def firsts (l : List α) : List α := l.foldl addNew []
def canon (l : List α) : List Int := l.map fun x => (((firsts l).idxOf x : Nat) : Int)
theorem foldNew_mem {l : List α} : ∀ {acc : List α} {x : α}, x ∈ l.foldl addNew acc ↔ x ∈ acc ∨ x ∈ l := by
  induction l with
  | nil => simp
  | cons a l ih =>
    intro acc x
    rw [List.foldl_cons, ih, addNew]
    split
    · rename_i h
      constructor
      · rintro (h' | h')
        · exact .inl h'
        · exact .inr (List.mem_cons_of_mem _ h')
      · rintro (h' | h')
        · exact .inl h'
        · rcases List.mem_cons.1 h' with rfl | h'
          · exact .inl h
          · exact .inr h'
    · simp only [List.mem_append, List.mem_cons, or_assoc, List.not_mem_nil, false_or]
theorem mem_firsts {l : List α} {x : α} : x ∈ firsts l ↔ x ∈ l := by simp [firsts, foldNew_mem]
theorem foldNew_pre {l : List α} : ∀ {acc : List α}, ∃ t, l.foldl addNew acc = acc ++ t := by
  induction l with
  | nil => exact fun {acc} => ⟨[], by simp⟩
  | cons a l ih =>
    intro acc
    obtain ⟨t, ht⟩ := ih (acc := addNew acc a)
    rw [List.foldl_cons, ht, addNew]
    split
    · exact ⟨t, rfl⟩
    · exact ⟨a :: t, by simp⟩
theorem firsts_append {l m : List α} : ∃ t, firsts (l ++ m) = firsts l ++ t := by
  rw [firsts, List.foldl_append]; exact foldNew_pre
theorem firsts_snoc {l : List α} {x : α} : firsts (l ++ [x]) = if x ∈ l then firsts l else firsts l ++ [x] := by
  rw [firsts, List.foldl_append]
  show addNew (firsts l) x = _
  simp only [addNew, mem_firsts]
theorem foldNew_nodup {l : List α} : ∀ {acc : List α}, acc.Nodup → (l.foldl addNew acc).Nodup := by
  induction l with
  | nil => exact fun h => h
  | cons a l ih =>
    intro acc h
    rw [List.foldl_cons]
    refine ih ?_
    unfold addNew
    split
    · exact h
    · rename_i hn
      rw [List.nodup_append]
      refine ⟨h, by simp, fun x hx y hy e => ?_⟩
      simp at hy
      subst hy; subst e
      exact hn hx
theorem firsts_nodup (l : List α) : (firsts l).Nodup := foldNew_nodup (by simp)
theorem idx_append {l m : List α} {x : α} (h : x ∈ l) : (firsts (l ++ m)).idxOf x = (firsts l).idxOf x := by
  obtain ⟨t, ht⟩ := firsts_append (l := l) (m := m)
  rw [ht, List.idxOf_append, if_pos (mem_firsts.2 h)]
theorem canon_length (l : List α) : (canon l).length = l.length := by simp [canon]
omit [DecidableEq α] in
theorem take_get {l : List α} {i : Nat} {d : α} (h : i < l.length) : l.take (i + 1) = l.take i ++ [l.getD i d] := by
  rw [List.take_add_one]; simp [List.getD, h]
theorem canon_at {l : List α} {d : α} {i : Nat} (h : i < l.length) :
    (canon l).getD i 0 = if l.getD i d ∈ l.take i then (((firsts (l.take i)).idxOf (l.getD i d) : Nat) : Int) else ((firsts (l.take i)).length : Nat) := by
  have e : (canon l).getD i 0 = (((firsts l).idxOf (l.getD i d) : Nat) : Int) := by
    simp [canon, List.getD, h]
  rw [e]
  have hl : l = l.take (i + 1) ++ l.drop (i + 1) := (List.take_append_drop _ _).symm
  have hm : l.getD i d ∈ l.take (i + 1) := by rw [take_get (d := d) h]; simp
  have e2 : (firsts l).idxOf (l.getD i d) = (firsts (l.take (i + 1))).idxOf (l.getD i d) := by
    have := idx_append (m := l.drop (i + 1)) hm
    rwa [← hl] at this
  rw [e2, take_get (d := d) h, firsts_snoc]
  split
  · rfl
  · rename_i hn
    rw [List.idxOf_append, if_neg (fun h => hn (mem_firsts.1 h))]
    simp
theorem canon_eq_iff {l : List α} {d : α} {i j : Nat} (hi : i < l.length) (hj : j < l.length) : (canon l).getD i 0 = (canon l).getD j 0 ↔ l.getD i d = l.getD j d := by
  have e : ∀ {i}, i < l.length → (canon l).getD i 0 = (((firsts l).idxOf (l.getD i d) : Nat) : Int) := fun {i} h => by
    simp [canon, List.getD, h]
  rw [e hi, e hj]
  constructor
  · intro h
    have h : (firsts l).idxOf (l.getD i d) = (firsts l).idxOf (l.getD j d) := by exact_mod_cast h
    have m1 : l.getD i d ∈ firsts l := mem_firsts.2 (getD_mem hi)
    have m2 : l.getD j d ∈ firsts l := mem_firsts.2 (getD_mem hj)
    have h1 := List.getElem_idxOf (List.idxOf_lt_length_of_mem m1)
    have h2 := List.getElem_idxOf (List.idxOf_lt_length_of_mem m2)
    rw [← h1, ← h2]
    congr 1
  · intro h; rw [h]
theorem canon_lt {l : List α} {i : Nat} (hi : i < l.length) : 0 ≤ (canon l).getD i 0 ∧ (canon l).getD i 0 < (firsts l).length := by
  have e : (canon l).getD i 0 = (((firsts l).idxOf (l[i]) : Nat) : Int) := by
    simp [canon, List.getD, hi]
  rw [e]
  have := List.idxOf_lt_length_of_mem (mem_firsts.2 (List.getElem_mem hi))
  omega
theorem firsts_le (l : List α) : (firsts l).length ≤ l.length := by
  have : ∀ (l acc : List α), (l.foldl addNew acc).length ≤ acc.length + l.length := by
    intro l
    induction l with
    | nil => simp
    | cons a l ih =>
      intro acc
      rw [List.foldl_cons]
      have := ih (addNew acc a)
      have h2 : (addNew acc a).length ≤ acc.length + 1 := by unfold addNew; split <;> simp
      simp only [List.length_cons]; omega
  simpa [firsts] using this l []
theorem canon_congr {l : List α} {m : List β} {d : α} {e : β} (hl : l.length = m.length) (h : ∀ i j, i < l.length → j < l.length → (l.getD i d = l.getD j d ↔ m.getD i e = m.getD j e)) : canon l = canon m := by
  have key : ∀ i, i ≤ l.length → (firsts (l.take i)).length = (firsts (m.take i)).length ∧ ∀ j, j < i → (firsts (l.take i)).idxOf (l.getD j d) = (firsts (m.take i)).idxOf (m.getD j e) := by
    intro i
    induction i with
    | zero => exact fun _ => ⟨rfl, fun j hj => absurd hj (Nat.not_lt_zero _)⟩
    | succ i ih =>
      intro hi
      obtain ⟨h1, h2⟩ := ih (by omega)
      have hil : i < l.length := by omega
      have him : i < m.length := by omega
      have mem : l.getD i d ∈ l.take i ↔ m.getD i e ∈ m.take i := by
        constructor
        · intro hm
          obtain ⟨j, hj, hje⟩ := mem_getD d hm
          rw [List.length_take] at hj
          have hj' : j < i := by omega
          have e1 : (l.take i).getD j d = l.getD j d := by simp [List.getD, hj']
          rw [e1] at hje
          have := (h j i (by omega) hil).1 hje
          rw [← this]
          have e2 : (m.take i).getD j e = m.getD j e := by simp [List.getD, hj']
          rw [← e2]
          exact getD_mem (by rw [List.length_take]; omega)
        · intro hm
          obtain ⟨j, hj, hje⟩ := mem_getD e hm
          rw [List.length_take] at hj
          have hj' : j < i := by omega
          have e1 : (m.take i).getD j e = m.getD j e := by simp [List.getD, hj']
          rw [e1] at hje
          have := (h j i (by omega) hil).2 hje
          rw [← this]
          have e2 : (l.take i).getD j d = l.getD j d := by simp [List.getD, hj']
          rw [← e2]
          exact getD_mem (by rw [List.length_take]; omega)
      have jl : ∀ j, j < i → l.getD j d ∈ l.take i := fun j hj => by
        have e2 : (l.take i).getD j d = l.getD j d := by simp [List.getD, hj]
        rw [← e2]; exact getD_mem (by rw [List.length_take]; omega)
      have jm : ∀ j, j < i → m.getD j e ∈ m.take i := fun j hj => by
        have e2 : (m.take i).getD j e = m.getD j e := by simp [List.getD, hj]
        rw [← e2]; exact getD_mem (by rw [List.length_take]; omega)
      have fl := firsts_snoc (l := l.take i) (x := l.getD i d)
      have fm := firsts_snoc (l := m.take i) (x := m.getD i e)
      rw [← take_get hil] at fl
      rw [← take_get him] at fm
      by_cases hm : l.getD i d ∈ l.take i
      · rw [if_pos hm] at fl
        rw [if_pos (mem.1 hm)] at fm
        rw [fl, fm]
        refine ⟨h1, fun j hj => ?_⟩
        by_cases hji : j < i
        · exact h2 j hji
        · have : j = i := by omega
          subst this
          obtain ⟨j', hj', hje⟩ := mem_getD d hm
          rw [List.length_take] at hj'
          have hj2 : j' < j := by omega
          have e1 : (l.take j).getD j' d = l.getD j' d := by simp [List.getD, hj2]
          rw [e1] at hje
          rw [← hje, ← (h j' j (by omega) hil).1 hje]
          exact h2 j' hj2
      · rw [if_neg hm] at fl
        rw [if_neg (fun h => hm (mem.2 h))] at fm
        rw [fl, fm]
        refine ⟨by simp [h1], fun j hj => ?_⟩
        by_cases hji : j < i
        · rw [List.idxOf_append, if_pos (mem_firsts.2 (jl j hji)), List.idxOf_append, if_pos (mem_firsts.2 (jm j hji))]
          exact h2 j hji
        · have : j = i := by omega
          subst this
          rw [List.idxOf_append, if_neg (fun h => hm (mem_firsts.1 h)), List.idxOf_append, if_neg (fun h => hm (mem.2 (mem_firsts.1 h)))]
          simp [h1]
  have := key l.length (Nat.le_refl _)
  rw [List.take_length, hl, List.take_length] at this
  apply List.ext_getElem
  · simp [canon, hl]
  · intro i h1 h2
    simp only [canon, List.length_map] at h1 h2
    have := this.2 i h2
    simp only [List.getD, List.getElem?_eq_getElem h1, List.getElem?_eq_getElem h2, Option.getD_some] at this
    simp [canon, this]
end
/-! ### Valid numberings -/
theorem canon_idem (l : List Int) : canon (canon l) = canon l :=
  canon_congr (d := 0) (e := 0) (canon_length l) fun i j hi hj => by
    rw [canon_length] at hi hj
    exact canon_eq_iff hi hj
def validP (p : List Int) : Prop := p.length ≤ 4096 ∧ canon p = p
instance (p : List Int) : Decidable (validP p) := by unfold validP; infer_instance
theorem firsts_range {n : Nat} {p : List Int} (h : firsts p = (List.range n).map (fun (c : Nat) => (c : Int))) : ∀ x : Int, (0 ≤ x ∧ x < n) ↔ x ∈ p := fun x => by
  rw [← mem_firsts, h, List.mem_map]
  constructor
  · rintro ⟨h1, h2⟩
    exact ⟨x.toNat, by rw [List.mem_range]; omega, by omega⟩
  · rintro ⟨c, h1, rfl⟩
    rw [List.mem_range] at h1
    omega
theorem idx_range {n : Nat} {x : Int} (h : 0 ≤ x ∧ x < n) : (((List.range n).map (fun (c : Nat) => (c : Int))).idxOf x : Nat) = x.toNat := by
  have hn : ((List.range n).map (fun (c : Nat) => (c : Int))).Nodup := by
    rw [List.Nodup, List.pairwise_map]
    exact List.nodup_range.imp fun h e => h (by exact_mod_cast e)
  have hlt : x.toNat < ((List.range n).map (fun (c : Nat) => (c : Int))).length := by simp; omega
  have := hn.idxOf_getElem x.toNat hlt
  rw [← this]
  congr 1
  simp; omega
def stepOk (p : List Int) (i : Nat) : Prop := 0 ≤ p.getD i 0 ∧ p.getD i 0 ≤ (firsts (p.take i)).length
theorem firsts_valid {p : List Int} : ∀ {i : Nat}, i ≤ p.length → (∀ j, j < i → stepOk p j) → firsts (p.take i) = (List.range (firsts (p.take i)).length).map (fun (c : Nat) => (c : Int))
  | 0, _, _ => by simp [firsts]
  | i + 1, hi, h => by
    have ih := firsts_valid (p := p) (i := i) (by omega) fun j hj => h j (by omega)
    have hs := h i (by omega)
    have hil : i < p.length := by omega
    have fl := firsts_snoc (l := p.take i) (x := p.getD i 0)
    rw [← take_get hil] at fl
    have hr := firsts_range ih (p.getD i 0)
    rw [fl]
    split
    · exact ih
    · rename_i hm
      have : p.getD i 0 = (firsts (p.take i)).length := by
        unfold stepOk at hs
        rcases Int.lt_or_eq_of_le hs.2 with h1 | h1
        · exact absurd (hr.1 ⟨hs.1, h1⟩) hm
        · exact h1
      rw [List.length_append, List.length_singleton, List.range_succ, List.map_append, ← ih, this]
      simp
theorem canon_fix {p : List Int} : canon p = p ↔ ∀ i, i < p.length → stepOk p i := by
  constructor
  · intro h i hi
    have := canon_at (d := 0) hi
    rw [h] at this
    unfold stepOk
    rw [this]
    split
    · rename_i hm
      have := List.idxOf_lt_length_of_mem (mem_firsts.2 hm)
      omega
    · omega
  · intro h
    have hf := firsts_valid (Nat.le_refl _) h
    rw [List.take_length] at hf
    apply List.ext_getElem
    · exact canon_length p
    · intro i h1 h2
      have hm : p[i] ∈ p := List.getElem_mem h2
      have hr := (firsts_range hf p[i]).2 hm
      have e : (firsts p).idxOf p[i] = p[i].toNat := by rw [hf]; exact idx_range hr
      simp only [canon, List.getElem_map, e]
      omega
def classN (p : List Int) : Nat := (firsts p).length
theorem valid_range {p : List Int} (h : canon p = p) (x : Int) : (0 ≤ x ∧ x < classN p) ↔ x ∈ p := by
  have hf := firsts_valid (Nat.le_refl _) (canon_fix.1 h)
  rw [List.take_length] at hf
  exact firsts_range hf x
/-! ### What a map from members to numbers has -/
section
variable {α : Type} [DecidableEq α]
def mapOf (key : α → List Int) (n : Nat) (fs : List α) : List (List Int × Int) := (fs.zipIdx n).map fun e => (key e.1, ((e.2 : Nat) : Int))
omit [DecidableEq α] in
theorem mapOf_length {key : α → List Int} {n : Nat} {fs : List α} : (mapOf key n fs).length = fs.length := by simp [mapOf]
omit [DecidableEq α] in
theorem mapOf_snoc {key : α → List Int} {fs : List α} {x : α} : mapOf key 0 (fs ++ [x]) = mapOf key 0 fs ++ [(key x, (fs.length : Int))] := by
  simp [mapOf, List.zipIdx_append]
theorem getM_mapOf {key : α → List Int} (hk : ∀ a b, key a = key b → a = b) {x : α} : ∀ {fs : List α} {n : Nat}, getM (mapOf key n fs) (key x) = if x ∈ fs then some (((n + fs.idxOf x : Nat)) : Int) else none
  | [], n => rfl
  | a :: fs, n => by
    show (if key a = key x then some (n : Int) else getM (mapOf key (n + 1) fs) (key x)) = _
    by_cases h : a = x
    · subst h; simp
    · have h1 : key a ≠ key x := fun e => h (hk _ _ e)
      have h2 : (x ∈ a :: fs) ↔ x ∈ fs := by simp [Ne.symm h]
      rw [if_neg h1, getM_mapOf hk]
      by_cases hm : x ∈ fs
      · rw [if_pos hm, if_pos (h2.2 hm), List.idxOf_cons]
        have : (a == x) = false := by simpa using h
        rw [this]; simp only [cond_false]; congr 2; omega
      · rw [if_neg hm, if_neg (fun h => hm (h2.1 h))]
theorem setM_new : ∀ {m : List (List Int × Int)} {k : List Int} {v : Int}, getM m k = none → setM m k v = m ++ [(k, v)]
  | [], _, _, _ => rfl
  | p :: m, k, v, h => by
    simp only [getM] at h
    split at h
    · cases h
    · rename_i hne
      simp [setM, hne, setM_new h]
end
end Go.Proofs.Ytpanlghofeebhaa
end
section
/- Multiplication tables, in plain words: nothing of the program stands here. -/
namespace Go.Proofs.Ytpanlghofeebhaa
open Classical
theorem mem_of_getD {α : Type} {l : List α} {i : Nat} {d : α} (h : i < l.length) : l.getD i d ∈ l := by
  simp [List.getD, h]
def en (t : List (List Int)) (x y : Nat) : Nat := ((t.getD x []).getD y 0).toNat
def rowOk (n : Nat) (r : List Int) : Prop := r.length = n ∧ ∀ x ∈ r, 0 ≤ x ∧ x < n
structure Sh (t : List (List Int)) : Prop where
  pos : 0 < t.length
  most : t.length ≤ 400
  row : ∀ r ∈ t, rowOk t.length r
noncomputable def shapeV (t : List (List Int)) : Int := if t.length > 400 then 3 else if t.length = 0 then 4 else if ∀ r ∈ t, rowOk t.length r then 0 else 4
theorem shape_zero {t : List (List Int)} : shapeV t = 0 ↔ Sh t := by
  unfold shapeV
  split
  · exact ⟨fun h => by omega, fun h => absurd h.most (by omega)⟩
  · split
    · exact ⟨fun h => by omega, fun h => absurd h.pos (by omega)⟩
    · split
      · rename_i h1 h2 h3; exact ⟨fun _ => ⟨by omega, by omega, h3⟩, fun _ => rfl⟩
      · rename_i h3; exact ⟨fun h => by omega, fun h => absurd h.row h3⟩
theorem Sh.len {t : List (List Int)} (h : Sh t) {x : Nat} (hx : x < t.length) : (t.getD x []).length = t.length := by
  refine (h.row _ ?_).1
  simp [List.getD, hx]
theorem Sh.ent {t : List (List Int)} (h : Sh t) {x y : Nat} (hx : x < t.length) (hy : y < t.length) : (t.getD x []).getD y 0 = (en t x y : Int) ∧ en t x y < t.length := by
  have hm : t.getD x [] ∈ t := by simp [List.getD, hx]
  obtain ⟨hl, hall⟩ := h.row _ hm
  have hy' : y < (t.getD x []).length := by rw [hl]; exact hy
  have hmem : (t.getD x []).getD y 0 ∈ t.getD x [] := mem_of_getD hy'
  have := hall _ hmem
  unfold en
  omega
def Lt (t : List (List Int)) (g : Nat) : Prop := ∀ x y, x < t.length → y < t.length → en t (en t x g) y = en t x (en t g y)
def Assoc (t : List (List Int)) : Prop := ∀ g, g < t.length → Lt t g
theorem assoc3 {t : List (List Int)} (h : Assoc t) {x y z : Nat} (hx : x < t.length) (hy : y < t.length) (hz : z < t.length) : en t (en t x y) z = en t x (en t y z) := h y hy x z hx hz
noncomputable def lightB (t : List (List Int)) (gens : List Int) : Bool := decide (∀ g ∈ gens, Lt t g.toNat)
theorem lightB_true {t : List (List Int)} {gens : List Int} : lightB t gens = true ↔ ∀ g ∈ gens, Lt t g.toNat := by unfold lightB; exact decide_eq_true_iff
theorem lightB_false {t : List (List Int)} {gens : List Int} : lightB t gens = false ↔ ¬ ∀ g ∈ gens, Lt t g.toNat := by unfold lightB; exact decide_eq_false_iff_not
inductive Mk (t : List (List Int)) (gens : List Int) : Nat → Prop
  | gen {g : Int} (h : g ∈ gens) : Mk t gens g.toNat
  | mul {a b : Nat} (ha : Mk t gens a) (hb : Mk t gens b) : Mk t gens (en t a b)
theorem Mk.mono {t : List (List Int)} {g h : List Int} (hs : ∀ x ∈ g, x ∈ h) {a : Nat} (m : Mk t g a) : Mk t h a := by
  induction m with
  | gen hm => exact .gen (hs _ hm)
  | mul _ _ ih1 ih2 => exact .mul ih1 ih2
structure Spans (t : List (List Int)) (gens : List Int) : Prop where
  el : ∀ g ∈ gens, 0 ≤ g ∧ g < t.length
  all : ∀ x, x < t.length → Mk t gens x
theorem Mk.lt {t : List (List Int)} {gens : List Int} (h : Sh t) (hg : ∀ g ∈ gens, 0 ≤ g ∧ g < t.length) {a : Nat} (m : Mk t gens a) : a < t.length := by
  induction m with
  | gen hm => have := hg _ hm; omega
  | mul _ _ h1 h2 => exact (h.ent h1 h2).2
theorem Mk.light {t : List (List Int)} {gens : List Int} (h : Sh t) (hg : ∀ g ∈ gens, 0 ≤ g ∧ g < t.length) (hl : ∀ g ∈ gens, Lt t g.toNat) {a : Nat} (m : Mk t gens a) : Lt t a := by
  induction m with
  | gen hm => exact hl _ hm
  | mul h1 h2 ih1 ih2 =>
    rename_i a b
    intro x y hx hy
    have ha := h1.lt h hg
    have hb := h2.lt h hg
    rw [← ih1 x b hx hb, ih2 (en t x a) y (h.ent hx ha).2 hy, ih1 x (en t b y) hx (h.ent hb hy).2, ← ih2 a y ha hy]
theorem light_assoc {t : List (List Int)} {gens : List Int} (h : Sh t) (hs : Spans t gens) : lightB t gens = true ↔ Assoc t := by
  unfold lightB
  rw [decide_eq_true_iff]
  constructor
  · intro hl g hg; exact (hs.all g hg).light h hs.el hl
  · intro ha g hg; exact ha _ (by have := hs.el g hg; omega)
noncomputable def validV (t : List (List Int)) : Int := if shapeV t ≠ 0 then shapeV t else if Assoc t then 0 else 5
structure Semi (t : List (List Int)) : Prop extends Sh t where
  assoc : Assoc t
theorem valid_zero {t : List (List Int)} : validV t = 0 ↔ Semi t := by
  unfold validV
  split
  · rename_i h; exact ⟨fun h' => absurd h' h, fun h' => absurd (shape_zero.2 h'.toSh) h⟩
  · rename_i h
    have h : shapeV t = 0 := Classical.byContradiction h
    split
    · rename_i ha; exact ⟨fun _ => ⟨shape_zero.1 h, ha⟩, fun _ => rfl⟩
    · rename_i ha; exact ⟨fun h' => by omega, fun h' => absurd h'.assoc ha⟩
/-! ### Identities and groups -/
end Go.Proofs.Ytpanlghofeebhaa
end
section
/- Green's relations of a table: the ideals of its elements and their classes. Plain; no program. -/
namespace Go.Proofs.Ytpanlghofeebhaa
open Go Go.AM
def inRB (t : List (List Int)) (y x : Nat) : Bool := decide (x = y) || (t.getD y []).contains (x : Int)
def inLB (t : List (List Int)) (y x : Nat) : Bool := decide (x = y) || t.any fun row => row.getD y 0 == (x : Int)
def inJB (t : List (List Int)) (y x : Nat) : Bool := (List.range t.length).any fun z => inLB t y z && inRB t z x
def rep (e : Nat → Nat → Bool) (x : Nat) : Nat := ((List.range x).find? fun y => e x y && e y x).getD x
def repsL (n : Nat) (e : Nat → Nat → Bool) : List Int := (List.range n).map fun x => ((rep e x : Nat) : Int)
theorem rep_of {e : Nat → Nat → Bool} {x y : Nat} (hy : y < x) (h : (e x y && e y x) = true) (hn : ∀ z, z < y → (e x z && e z x) = false) : rep e x = y := by
  unfold rep
  have : (List.range x).find? (fun y => e x y && e y x) = some y := by
    rw [List.find?_range_eq_some]
    exact ⟨h, by rw [List.mem_range]; exact hy, fun z hz => by show (!_) = true; rw [hn z hz]; rfl⟩
  rw [this]; rfl
theorem rep_none {e : Nat → Nat → Bool} {x : Nat} (h : ∀ y, y < x → (e x y && e y x) = false) : rep e x = x := by
  unfold rep
  have : (List.range x).find? (fun y => e x y && e y x) = none := by
    rw [List.find?_range_eq_none]
    exact fun y hy => by show (!_) = true; rw [h y hy]; rfl
  rw [this]; rfl
theorem rep_cases (e : Nat → Nat → Bool) (x : Nat) : (rep e x = x ∧ ∀ y, y < x → (e x y && e y x) = false) ∨ (rep e x < x ∧ (e x (rep e x) && e (rep e x) x) = true ∧ ∀ y, y < rep e x → (e x y && e y x) = false) := by
  by_cases h : ∀ y, y < x → (e x y && e y x) = false
  · exact .inl ⟨rep_none h, h⟩
  · have : ∃ y, y < x ∧ (e x y && e y x) = true := by
      apply Classical.byContradiction
      intro hn
      exact h fun y hy => by
        cases hb : (e x y && e y x) with
        | false => rfl
        | true => exact absurd ⟨y, hy, hb⟩ hn
    have least : ∀ n, (∃ y, y < n ∧ y < x ∧ (e x y && e y x) = true) → ∃ y, y < x ∧ (e x y && e y x) = true ∧ ∀ z, z < y → (e x z && e z x) = false := by
      intro n
      induction n with
      | zero => rintro ⟨y, hy, _⟩; exact absurd hy (Nat.not_lt_zero _)
      | succ n ih =>
        rintro ⟨y, hy, hyx, hb⟩
        by_cases hl : ∃ z, z < n ∧ z < x ∧ (e x z && e z x) = true
        · exact ih hl
        · refine ⟨y, hyx, hb, fun z hz => ?_⟩
          cases hzb : (e x z && e z x) with
          | false => rfl
          | true => exact absurd ⟨z, by omega, by omega, hzb⟩ hl
    obtain ⟨y, hy, hb⟩ := this
    obtain ⟨y, h1, h2, h3⟩ := least (y + 1) ⟨y, Nat.lt_succ_self _, hy, hb⟩
    have := rep_of h1 h2 h3
    exact .inr (by rw [this]; exact ⟨h1, h2, h3⟩)
theorem repsL_len (n : Nat) (e : Nat → Nat → Bool) : (repsL n e).length = n := by simp [repsL]
theorem repsL_get {n : Nat} {e : Nat → Nat → Bool} {x : Nat} (hx : x < n) : (repsL n e).getD x 0 = ((rep e x : Nat) : Int) := by
  simp only [repsL, List.getD, List.getElem?_map, List.getElem?_range hx, Option.map_some, Option.getD_some]
structure Pre (n : Nat) (e : Nat → Nat → Bool) : Prop where
  refl : ∀ x, x < n → e x x = true
  trans : ∀ x y z, x < n → y < n → z < n → e x y = true → e y z = true → e x z = true
theorem rep_iff {n : Nat} {e : Nat → Nat → Bool} (h : Pre n e) {x y : Nat} (hx : x < n) (hy : y < n) : rep e x = rep e y ↔ (e x y = true ∧ e y x = true) := by
  have muty : ∀ x, x < n → rep e x < n ∧ e x (rep e x) = true ∧ e (rep e x) x = true := fun x hx => by
    rcases rep_cases e x with ⟨h1, _⟩ | ⟨h1, h2, _⟩
    · rw [h1]; exact ⟨hx, h.refl x hx, h.refl x hx⟩
    · rw [Bool.and_eq_true] at h2; exact ⟨by omega, h2.1, h2.2⟩
  have least : ∀ x z, x < n → z < n → e x z = true → e z x = true → rep e x ≤ z := fun x z hx hz h1 h2 => by
    rcases rep_cases e x with ⟨g1, g2⟩ | ⟨g1, _, g2⟩
    · rw [g1]
      apply Nat.le_of_not_lt
      intro hlt
      have := g2 z hlt
      rw [h1, h2] at this; cases this
    · apply Nat.le_of_not_lt
      intro hlt
      have := g2 z hlt
      rw [h1, h2] at this; cases this
  obtain ⟨a1, a2, a3⟩ := muty x hx
  obtain ⟨b1, b2, b3⟩ := muty y hy
  constructor
  · intro he
    exact ⟨h.trans x (rep e x) y hx a1 hy a2 (he ▸ b3), h.trans y (rep e x) x hy a1 hx (he ▸ b2) a3⟩
  · rintro ⟨h1, h2⟩
    apply Nat.le_antisymm
    · exact least x (rep e y) hx b1 (h.trans x y _ hx hy b1 h1 b2) (h.trans _ y x b1 hy hx b3 h2)
    · exact least y (rep e x) hy a1 (h.trans y x _ hy hx a1 h2 a2) (h.trans _ x y a1 hx hy a3 h1)
def clsL (n : Nat) (e : Nat → Nat → Bool) : List Int := canon (repsL n e)
theorem clsL_len (n : Nat) (e : Nat → Nat → Bool) : (clsL n e).length = n := by rw [clsL, canon_length, repsL_len]
theorem clsL_iff {n : Nat} {e : Nat → Nat → Bool} (h : Pre n e) {x y : Nat} (hx : x < n) (hy : y < n) : (clsL n e).getD x 0 = (clsL n e).getD y 0 ↔ (e x y = true ∧ e y x = true) := by
  rw [clsL, canon_eq_iff (d := 0) (by rw [repsL_len]; exact hx) (by rw [repsL_len]; exact hy), repsL_get hx, repsL_get hy, ← rep_iff h hx hy]
  exact Int.ofNat_inj
/-! ### In a semigroup -/
/-! ### The classes of a table -/
def classJ (t : List (List Int)) : List Int := clsL t.length (inJB t)
def numJ (t : List (List Int)) : Nat := classN (classJ t)
end Go.Proofs.Ytpanlghofeebhaa
end
section
/- Plain: equivalences that pairs generate; classes made one; canonical numbers of classes. -/
namespace Go.Proofs.Ytpanlghofeebhaa
inductive Eg (R : Nat → Nat → Prop) : Nat → Nat → Prop
  | rel {a b : Nat} (h : R a b) : Eg R a b
  | refl (a : Nat) : Eg R a a
  | symm {a b : Nat} (h : Eg R a b) : Eg R b a
  | trans {a b c : Nat} (h : Eg R a b) (h' : Eg R b c) : Eg R a c
theorem Eg.least {R Q : Nat → Nat → Prop} (hr : ∀ a, Q a a) (hs : ∀ a b, Q a b → Q b a) (ht : ∀ a b c, Q a b → Q b c → Q a c) (h : ∀ a b, R a b → Q a b) {a b : Nat} (e : Eg R a b) : Q a b := by
  induction e with
  | rel h1 => exact h _ _ h1
  | refl a => exact hr a
  | symm _ ih => exact hs _ _ ih
  | trans _ _ i1 i2 => exact ht _ _ _ i1 i2
theorem Eg.mono {R R' : Nat → Nat → Prop} (h : ∀ a b, R a b → Eg R' a b) {a b : Nat} (e : Eg R a b) : Eg R' a b :=
  e.least .refl (fun _ _ => .symm) (fun _ _ _ => .trans) h
def orP (R : Nat → Nat → Prop) (i j : Nat) : Nat → Nat → Prop := fun a b => R a b ∨ (a = i ∧ b = j)
theorem eg_or {R : Nat → Nat → Prop} {i j a b : Nat} : Eg (orP R i j) a b ↔ Eg R a b ∨ (Eg R a i ∧ Eg R j b) ∨ (Eg R a j ∧ Eg R i b) := by
  constructor
  · intro e
    refine e.least (Q := fun a b => Eg R a b ∨ (Eg R a i ∧ Eg R j b) ∨ (Eg R a j ∧ Eg R i b)) (fun a => .inl (.refl a)) ?_ ?_ ?_
    · rintro a b (h | ⟨h1, h2⟩ | ⟨h1, h2⟩)
      · exact .inl h.symm
      · exact .inr (.inr ⟨h2.symm, h1.symm⟩)
      · exact .inr (.inl ⟨h2.symm, h1.symm⟩)
    · rintro a b c (h | ⟨h1, h2⟩ | ⟨h1, h2⟩) (h' | ⟨h3, h4⟩ | ⟨h3, h4⟩)
      · exact .inl (h.trans h')
      · exact .inr (.inl ⟨h.trans h3, h4⟩)
      · exact .inr (.inr ⟨h.trans h3, h4⟩)
      · exact .inr (.inl ⟨h1, h2.trans h'⟩)
      · exact .inr (.inl ⟨h1, h4⟩)
      · exact .inl (h1.trans h4)
      · exact .inr (.inr ⟨h1, h2.trans h'⟩)
      · exact .inl (h1.trans h4)
      · exact .inr (.inr ⟨h1, h4⟩)
    · rintro a b (h | ⟨rfl, rfl⟩)
      · exact .inl (.rel h)
      · exact .inr (.inl ⟨.refl _, .refl _⟩)
  · have up : ∀ {a b}, Eg R a b → Eg (orP R i j) a b := fun e => e.mono fun a b h => .rel (.inl h)
    have ij : Eg (orP R i j) i j := .rel (.inr ⟨rfl, rfl⟩)
    rintro (h | ⟨h1, h2⟩ | ⟨h1, h2⟩)
    · exact up h
    · exact (up h1).trans (ij.trans (up h2))
    · exact (up h1).trans (ij.symm.trans (up h2))
def mrgL (p : List Int) (i j : Nat) : List Int := p.map fun v => if v = p.getD j 0 then p.getD i 0 else v
theorem mrgL_len (p : List Int) (i j : Nat) : (mrgL p i j).length = p.length := by simp [mrgL]
theorem mrgL_get {p : List Int} {i j k : Nat} (hk : k < p.length) : (mrgL p i j).getD k 0 = if p.getD k 0 = p.getD j 0 then p.getD i 0 else p.getD k 0 := by
  simp [mrgL, List.getD, hk]
  first | rfl | (split <;> simp_all)
def KerOf (n : Nat) (p : List Int) (R : Nat → Nat → Prop) : Prop := p.length = n ∧ ∀ a b, a < n → b < n → (p.getD a 0 = p.getD b 0 ↔ Eg R a b)
theorem KerOf.mrg {n : Nat} {p : List Int} {R : Nat → Nat → Prop} (h : KerOf n p R) {i j : Nat} (hi : i < n) (hj : j < n) : KerOf n (mrgL p i j) (orP R i j) := by
  refine ⟨by rw [mrgL_len]; exact h.1, fun a b ha hb => ?_⟩
  have hl := h.1
  rw [mrgL_get (by omega), mrgL_get (by omega), eg_or, ← h.2 a b ha hb, ← h.2 a i ha hi, ← h.2 j b hj hb, ← h.2 a j ha hj, ← h.2 i b hi hb]
  by_cases h1 : p.getD a 0 = p.getD j 0 <;> by_cases h2 : p.getD b 0 = p.getD j 0
  · rw [if_pos h1, if_pos h2]; exact ⟨fun _ => .inl (h1.trans h2.symm), fun _ => rfl⟩
  · rw [if_pos h1, if_neg h2]
    exact ⟨fun e => .inr (.inr ⟨h1, e⟩), fun e => e.elim (fun e => absurd (e.symm.trans h1) h2) fun e => e.elim (fun e => absurd e.2.symm h2) fun e => e.2⟩
  · rw [if_neg h1, if_pos h2]
    exact ⟨fun e => .inr (.inl ⟨e, h2.symm⟩), fun e => e.elim (fun e => absurd (e.trans h2) h1) fun e => e.elim (fun e => e.1) fun e => absurd e.1 h1⟩
  · rw [if_neg h1, if_neg h2]
    exact ⟨fun e => .inl e, fun e => e.elim id fun e => e.elim (fun e => absurd e.2.symm h2) fun e => absurd e.1 h1⟩
theorem KerOf.congr {n : Nat} {p : List Int} {R R' : Nat → Nat → Prop} (h : KerOf n p R) (h1 : ∀ a b, R a b → Eg R' a b) (h2 : ∀ a b, R' a b → Eg R a b) : KerOf n p R' :=
  ⟨h.1, fun a b ha hb => (h.2 a b ha hb).trans ⟨Eg.mono h1, Eg.mono h2⟩⟩
def disI (n : Nat) : List Int := (List.range n).map fun i : Nat => (i : Int)
theorem disI_len (n : Nat) : (disI n).length = n := by simp [disI]
theorem disI_get {n i : Nat} (h : i < n) : (disI n).getD i 0 = (i : Int) := by simp [disI, List.getD, h]
theorem mem_disI {n : Nat} {x : Int} : x ∈ disI n ↔ 0 ≤ x ∧ x < (n : Int) := by
  unfold disI
  rw [List.mem_map]
  constructor
  · rintro ⟨i, hi, rfl⟩; have := List.mem_range.1 hi; omega
  · intro h; exact ⟨x.toNat, List.mem_range.2 (by omega), by omega⟩
theorem eg_none {R : Nat → Nat → Prop} (h : ∀ a b, ¬ R a b) {a b : Nat} : Eg R a b ↔ a = b :=
  ⟨fun e => e.least (fun _ => rfl) (fun _ _ h => h.symm) (fun _ _ _ h h' => h.trans h') fun a b hr => absurd hr (h a b), fun e => e ▸ .refl a⟩
theorem KerOf.dis {n : Nat} {R : Nat → Nat → Prop} (h : ∀ a b, ¬ R a b) : KerOf n (disI n) R :=
  ⟨disI_len n, fun a b ha hb => by rw [disI_get ha, disI_get hb, eg_none h]; omega⟩
theorem ker_canon {n : Nat} {p q : List Int} (hp : p.length = n) (hq : q.length = n) (h : ∀ a b, a < n → b < n → (p.getD a 0 = p.getD b 0 ↔ q.getD a 0 = q.getD b 0)) : canon p = canon q :=
  canon_congr (d := 0) (e := 0) (by rw [hp, hq]) fun i j hi hj => h i j (by omega) (by omega)
theorem pre_of {n : Nat} {e : Nat → Nat → Bool} (hr : ∀ x, x < n → e x x = true) (ht : ∀ x y z, x < n → y < n → z < n → e x y = true → e y z = true → e x z = true) : Pre n e := ⟨hr, ht⟩
theorem ker_clsL {n : Nat} {p : List Int} {e : Nat → Nat → Bool} (he : Pre n e) (hp : p.length = n) (h : ∀ a b, a < n → b < n → (p.getD a 0 = p.getD b 0 ↔ (e a b = true ∧ e b a = true))) : canon p = clsL n e := by
  rw [← canon_idem p]
  have h1 : canon (clsL n e) = clsL n e := canon_idem _
  rw [← h1, canon_idem p]
  exact ker_canon hp (clsL_len n e) fun a b ha hb => by rw [h a b ha hb, clsL_iff he ha hb]
end Go.Proofs.Ytpanlghofeebhaa
end
