import Derived.Test.YtjlkhjgnfnfmgaaAmTy
import Derived.Test.YtjlkhjgnfnfmgaaProg
import Derived.Test.YtjlkhjgnfnfmgaaAmRet
section
/- The abstract machine over this program: its types; from obligations to contracts. -/
namespace Go.Proofs.Ytjlkhjgnfnfmgaa
open Go Go.AM
set_option maxRecDepth 100000
theorem tyOk : TyOk Try.prog TY := tyOk_of (by decide +kernel) (by decide +kernel) (by decide +kernel)
theorem mixed : Try.prog.follows .mixedOrders = true := by decide +kernel
abbrev SP : Go.AM.Spec := specOf Try.prog
abbrev QF (f : FuncId) (args : List AV) (ret : AV) : Prop := Go.AM.Fn Try.prog f args ret
abbrev EF (f : FuncId) (args : List AV) {X : Type} (out : X → AV) (ok : X → Prop) : Prop := Go.AM.FnE Try.prog f args X out ok
abbrev MF (f : FuncId) (args : List AV) (S1 : Store) (ret : AV) (S2 : Store) : Prop := Go.AM.FnM Try.prog f args S1 ret S2
theorem mkQ {f : FuncId} {fn : Func} {args : List AV} {ret : AV} (hf : Try.prog.funcs[f]? = some fn) (hn : fn.name ≠ "runtime.NumGoroutine") (hb : fn.body.isSome = true) (hl : args.length ≤ fn.ntmps)
    (h : factsL args → fnK TY SP fn args ret) : QF f args ret := fn_of_ex tyOk (specOf_ok _) mixed hf hn hb hl h
theorem mkE {f : FuncId} {fn : Func} {args : List AV} {X : Type} {out : X → AV} {ok : X → Prop} (hf : Try.prog.funcs[f]? = some fn) (hn : fn.name ≠ "runtime.NumGoroutine") (hb : fn.body.isSome = true) (hl : args.length ≤ fn.ntmps)
    (h : factsL args → fnEK TY SP fn args out ok) : EF f args out ok := fnE_of_ex tyOk (specOf_ok _) mixed hf hn hb hl h
theorem mkM {f : FuncId} {fn : Func} {args : List AV} {S1 S2 : Store} {ret : AV} (hf : Try.prog.funcs[f]? = some fn) (hn : fn.name ≠ "runtime.NumGoroutine") (hb : fn.body.isSome = true) (hl : args.length ≤ fn.ntmps)
    (h : factsL args → fnMK TY SP fn args S1 ret S2) : MF f args S1 ret S2 := fnM_of_ex tyOk (specOf_ok _) mixed hf hn hb hl h
theorem getD_mem {α : Type} {l : List α} {i : Nat} {d : α} (h : i < l.length) : l.getD i d ∈ l := by
  simp [List.getD, h]
theorem getD_eq {α : Type} {l : List α} {i : Nat} {d : α} (h : i < l.length) : l.getD i d = l[i] := by
  simp [List.getD, h]
theorem getD_set_ne {α : Type} {l : List α} {i j : Nat} {a d : α} (h : i ≠ j) : (l.set i a).getD j d = l.getD j d := by
  simp [List.getD, List.getElem?_set_ne h]
theorem getD_set_eq {α : Type} {l : List α} {i : Nat} {a d : α} (h : i < l.length) : (l.set i a).getD i d = a := by
  simp [List.getD, h]
theorem mem_getD {α : Type} {l : List α} {x : α} (d : α) (h : x ∈ l) : ∃ i, i < l.length ∧ l.getD i d = x := by
  obtain ⟨i, hi, e⟩ := List.mem_iff_getElem.1 h
  exact ⟨i, hi, by rw [getD_eq hi, e]⟩
theorem lp {X : Type} (U : X → List (Nat × AV)) (V : X → Store) (ok : X → Prop) (μ : X → Nat) (x0 : X) {E : (Y : Type) → (Y → List (Nat × AV)) → (Y → Store) → (Y → Prop) → (Y → Nat) → Y → Prop} {B : (Y : Type) → (Y → List (Nat × AV)) → (Y → Store) → (Y → Prop) → (Y → Nat) → Y → Prop}
    (h0 : ok x0) (h1 : E X U V ok μ x0) (h2 : ∀ x, ok x → B X U V ok μ x) :
    ∃ (X : Type) (U : X → List (Nat × AV)) (V : X → Store) (ok : X → Prop) (μ : X → Nat) (x0 : X), (ok x0 ∧ E X U V ok μ x0) ∧ ∀ x, ok x → B X U V ok μ x :=
  ⟨X, U, V, ok, μ, x0, ⟨h0, h1⟩, h2⟩
abbrev un2 {A B : Type} {γ : Sort _} (f : A → B → γ) (p : A × B) : γ := match p with | (a, b) => f a b
abbrev un3 {A B C : Type} {γ : Sort _} (f : A → B → C → γ) (p : A × B × C) : γ := match p with | (a, b, c) => f a b c
abbrev un4 {A B C D : Type} {γ : Sort _} (f : A → B → C → D → γ) (p : A × B × C × D) : γ := match p with | (a, b, c, d) => f a b c d
theorem lp2 {A B : Type} (U : A → B → List (Nat × AV)) (V : A → B → Store) (ok : A → B → Prop) (μ : A → B → Nat) (a0 : A) (b0 : B) {E Bd : (Y : Type) → (Y → List (Nat × AV)) → (Y → Store) → (Y → Prop) → (Y → Nat) → Y → Prop}
    (h0 : ok a0 b0) (h1 : E (A × B) (un2 U) (un2 V) (un2 ok) (un2 μ) (a0, b0)) (h2 : ∀ a b, ok a b → Bd (A × B) (un2 U) (un2 V) (un2 ok) (un2 μ) (a, b)) :
    ∃ (X : Type) (U : X → List (Nat × AV)) (V : X → Store) (ok : X → Prop) (μ : X → Nat) (x0 : X), (ok x0 ∧ E X U V ok μ x0) ∧ ∀ x, ok x → Bd X U V ok μ x :=
  ⟨A × B, un2 U, un2 V, un2 ok, un2 μ, (a0, b0), ⟨h0, h1⟩, fun (a, b) h => h2 a b h⟩
theorem lp3 {A B C : Type} (U : A → B → C → List (Nat × AV)) (V : A → B → C → Store) (ok : A → B → C → Prop) (μ : A → B → C → Nat) (a0 : A) (b0 : B) (c0 : C) {E Bd : (Y : Type) → (Y → List (Nat × AV)) → (Y → Store) → (Y → Prop) → (Y → Nat) → Y → Prop}
    (h0 : ok a0 b0 c0) (h1 : E (A × B × C) (un3 U) (un3 V) (un3 ok) (un3 μ) (a0, b0, c0)) (h2 : ∀ a b c, ok a b c → Bd (A × B × C) (un3 U) (un3 V) (un3 ok) (un3 μ) (a, b, c)) :
    ∃ (X : Type) (U : X → List (Nat × AV)) (V : X → Store) (ok : X → Prop) (μ : X → Nat) (x0 : X), (ok x0 ∧ E X U V ok μ x0) ∧ ∀ x, ok x → Bd X U V ok μ x :=
  ⟨A × B × C, un3 U, un3 V, un3 ok, un3 μ, (a0, b0, c0), ⟨h0, h1⟩, fun (a, b, c) h => h2 a b c h⟩
theorem lp4 {A B C D : Type} (U : A → B → C → D → List (Nat × AV)) (V : A → B → C → D → Store) (ok : A → B → C → D → Prop) (μ : A → B → C → D → Nat) (a0 : A) (b0 : B) (c0 : C) (d0 : D) {E Bd : (Y : Type) → (Y → List (Nat × AV)) → (Y → Store) → (Y → Prop) → (Y → Nat) → Y → Prop}
    (h0 : ok a0 b0 c0 d0) (h1 : E (A × B × C × D) (un4 U) (un4 V) (un4 ok) (un4 μ) (a0, b0, c0, d0)) (h2 : ∀ a b c d, ok a b c d → Bd (A × B × C × D) (un4 U) (un4 V) (un4 ok) (un4 μ) (a, b, c, d)) :
    ∃ (X : Type) (U : X → List (Nat × AV)) (V : X → Store) (ok : X → Prop) (μ : X → Nat) (x0 : X), (ok x0 ∧ E X U V ok μ x0) ∧ ∀ x, ok x → Bd X U V ok μ x :=
  ⟨A × B × C × D, un4 U, un4 V, un4 ok, un4 μ, (a0, b0, c0, d0), ⟨h0, h1⟩, fun (a, b, c, d) h => h2 a b c d h⟩
theorem cm {f : FuncId} (fz : List Nat) (σ : List (Nat × Nat)) {S1 : Store} {as2 : List AV} {ret : AV} {S2 : Store} (h : MF f as2 S1 ret S2) {Q : Prop} {R : List Nat → List (Nat × Nat) → Store → List AV → AV → Store → Prop} (hr : R fz σ S1 as2 ret S2) :
    (∃ (fz : List Nat) (σ : List (Nat × Nat)) (S1 : Store) (as2 : List AV) (ret : AV) (S2 : Store), SP.m f as2 S1 ret S2 ∧ R fz σ S1 as2 ret S2) ∨ Q := Or.inl ⟨fz, σ, S1, as2, ret, S2, h, hr⟩
theorem cq {f : FuncId} {as2 : List AV} {ret : AV} (h : QF f as2 ret) {R Q : List AV → AV → Prop} (ha : R as2 ret) (hr : Q as2 ret) : ∃ (as2 : List AV) (ret : AV), SP.q f as2 ret ∧ R as2 ret ∧ Q as2 ret := ⟨as2, ret, h, ha, hr⟩
theorem ce {f : FuncId} {as2 : List AV} {X : Type} {out : X → AV} {ok : X → Prop} (h : EF f as2 out ok) {R : List AV → Prop} {Q : (X : Type) → (X → AV) → X → Prop} (ha : R as2) (hr : ∀ x, ok x → Q X out x) :
    ∃ (X : Type) (as2 : List AV) (out : X → AV) (ok : X → Prop), SP.e f as2 X out ok ∧ R as2 ∧ ∀ x, ok x → Q X out x := ⟨X, as2, out, ok, h, ha, hr⟩
theorem nx {X : Type} {ok : X → Prop} {μ : X → Nat} {m : Nat} {T3 T0 : List AV} {R : X → Prop} (x' : X) (h1 : ok x') (h2 : μ x' < m) (h4 : R x') (h3 : T3 = T0 := by rfl) : ∃ x', (ok x' ∧ μ x' < m) ∧ T3 = T0 ∧ R x' := ⟨x', ⟨h1, h2⟩, h3, h4⟩
end Go.Proofs.Ytjlkhjgnfnfmgaa
end
section
/- Partitions as lists: the canonical numbering, its laws. Plain; no program. -/
namespace Go.Proofs.Ytjlkhjgnfnfmgaa
open Go Go.AM
section
variable {α β : Type} [DecidableEq α] [DecidableEq β]
def addNew (acc : List α) (x : α) : List α := if x ∈ acc then acc else acc ++ [x]
def firsts (l : List α) : List α := l.foldl addNew []
def canon (l : List α) : List Int := l.map fun x => (((firsts l).idxOf x : Nat) : Int)
theorem foldNew_mem {l : List α} : ∀ {acc : List α} {x : α}, x ∈ l.foldl addNew acc ↔ x ∈ acc ∨ x ∈ l := by
  induction l with
  | nil => simp
  | cons a l ih =>
    intro acc x
    rw [List.foldl_cons, ih, addNew]
    split
    · rename_i h
      constructor
      · rintro (h' | h')
        · exact .inl h'
        · exact .inr (List.mem_cons_of_mem _ h')
      · rintro (h' | h')
        · exact .inl h'
        · rcases List.mem_cons.1 h' with rfl | h'
          · exact .inl h
          · exact .inr h'
    · simp only [List.mem_append, List.mem_cons, or_assoc, List.not_mem_nil, false_or]
theorem mem_firsts {l : List α} {x : α} : x ∈ firsts l ↔ x ∈ l := by simp [firsts, foldNew_mem]
theorem foldNew_nodup {l : List α} : ∀ {acc : List α}, acc.Nodup → (l.foldl addNew acc).Nodup := by
  induction l with
  | nil => exact fun h => h
  | cons a l ih =>
    intro acc h
    rw [List.foldl_cons]
    refine ih ?_
    unfold addNew
    split
    · exact h
    · rename_i hn
      rw [List.nodup_append]
      refine ⟨h, by simp, fun x hx y hy e => ?_⟩
      simp at hy
      subst hy; subst e
      exact hn hx
theorem firsts_nodup (l : List α) : (firsts l).Nodup := foldNew_nodup (by simp)
end
/-! ### Valid numberings -/
def validP (p : List Int) : Prop := p.length ≤ 4096 ∧ canon p = p
instance (p : List Int) : Decidable (validP p) := by unfold validP; infer_instance
def classN (p : List Int) : Nat := (firsts p).length
/-! ### What a map from members to numbers has -/
section
variable {α : Type} [DecidableEq α]
def mapOf (key : α → List Int) (n : Nat) (fs : List α) : List (List Int × Int) := (fs.zipIdx n).map fun e => (key e.1, ((e.2 : Nat) : Int))
omit [DecidableEq α] in
theorem mapOf_length {key : α → List Int} {n : Nat} {fs : List α} : (mapOf key n fs).length = fs.length := by simp [mapOf]
omit [DecidableEq α] in
theorem mapOf_snoc {key : α → List Int} {fs : List α} {x : α} : mapOf key 0 (fs ++ [x]) = mapOf key 0 fs ++ [(key x, (fs.length : Int))] := by
  simp [mapOf, List.zipIdx_append]
theorem getM_mapOf {key : α → List Int} (hk : ∀ a b, key a = key b → a = b) {x : α} : ∀ {fs : List α} {n : Nat}, getM (mapOf key n fs) (key x) = if x ∈ fs then some (((n + fs.idxOf x : Nat)) : Int) else none
  | [], n => rfl
  | a :: fs, n => by
    show (if key a = key x then some (n : Int) else getM (mapOf key (n + 1) fs) (key x)) = _
    by_cases h : a = x
    · subst h; simp
    · have h1 : key a ≠ key x := fun e => h (hk _ _ e)
      have h2 : (x ∈ a :: fs) ↔ x ∈ fs := by simp [Ne.symm h]
      rw [if_neg h1, getM_mapOf hk]
      by_cases hm : x ∈ fs
      · rw [if_pos hm, if_pos (h2.2 hm), List.idxOf_cons]
        have : (a == x) = false := by simpa using h
        rw [this]; simp only [cond_false]; congr 2; omega
      · rw [if_neg hm, if_neg (fun h => hm (h2.1 h))]
theorem setM_new : ∀ {m : List (List Int × Int)} {k : List Int} {v : Int}, getM m k = none → setM m k v = m ++ [(k, v)]
  | [], _, _, _ => rfl
  | p :: m, k, v, h => by
    simp only [getM] at h
    split at h
    · cases h
    · rename_i hne
      simp [setM, hne, setM_new h]
end
end Go.Proofs.Ytjlkhjgnfnfmgaa
end
section
/- Multiplication tables, in plain words: nothing of the program stands here. -/
namespace Go.Proofs.Ytjlkhjgnfnfmgaa
open Classical
theorem mem_of_getD {α : Type} {l : List α} {i : Nat} {d : α} (h : i < l.length) : l.getD i d ∈ l := by
  simp [List.getD, h]
def en (t : List (List Int)) (x y : Nat) : Nat := ((t.getD x []).getD y 0).toNat
def rowOk (n : Nat) (r : List Int) : Prop := r.length = n ∧ ∀ x ∈ r, 0 ≤ x ∧ x < n
structure Sh (t : List (List Int)) : Prop where
  pos : 0 < t.length
  most : t.length ≤ 400
  row : ∀ r ∈ t, rowOk t.length r
noncomputable def shapeV (t : List (List Int)) : Int := if t.length > 400 then 3 else if t.length = 0 then 4 else if ∀ r ∈ t, rowOk t.length r then 0 else 4
theorem shape_zero {t : List (List Int)} : shapeV t = 0 ↔ Sh t := by
  unfold shapeV
  split
  · exact ⟨fun h => by omega, fun h => absurd h.most (by omega)⟩
  · split
    · exact ⟨fun h => by omega, fun h => absurd h.pos (by omega)⟩
    · split
      · rename_i h1 h2 h3; exact ⟨fun _ => ⟨by omega, by omega, h3⟩, fun _ => rfl⟩
      · rename_i h3; exact ⟨fun h => by omega, fun h => absurd h.row h3⟩
theorem Sh.len {t : List (List Int)} (h : Sh t) {x : Nat} (hx : x < t.length) : (t.getD x []).length = t.length := by
  refine (h.row _ ?_).1
  simp [List.getD, hx]
theorem Sh.ent {t : List (List Int)} (h : Sh t) {x y : Nat} (hx : x < t.length) (hy : y < t.length) : (t.getD x []).getD y 0 = (en t x y : Int) ∧ en t x y < t.length := by
  have hm : t.getD x [] ∈ t := by simp [List.getD, hx]
  obtain ⟨hl, hall⟩ := h.row _ hm
  have hy' : y < (t.getD x []).length := by rw [hl]; exact hy
  have hmem : (t.getD x []).getD y 0 ∈ t.getD x [] := mem_of_getD hy'
  have := hall _ hmem
  unfold en
  omega
def Lt (t : List (List Int)) (g : Nat) : Prop := ∀ x y, x < t.length → y < t.length → en t (en t x g) y = en t x (en t g y)
def Assoc (t : List (List Int)) : Prop := ∀ g, g < t.length → Lt t g
theorem assoc3 {t : List (List Int)} (h : Assoc t) {x y z : Nat} (hx : x < t.length) (hy : y < t.length) (hz : z < t.length) : en t (en t x y) z = en t x (en t y z) := h y hy x z hx hz
noncomputable def lightB (t : List (List Int)) (gens : List Int) : Bool := decide (∀ g ∈ gens, Lt t g.toNat)
theorem lightB_true {t : List (List Int)} {gens : List Int} : lightB t gens = true ↔ ∀ g ∈ gens, Lt t g.toNat := by unfold lightB; exact decide_eq_true_iff
theorem lightB_false {t : List (List Int)} {gens : List Int} : lightB t gens = false ↔ ¬ ∀ g ∈ gens, Lt t g.toNat := by unfold lightB; exact decide_eq_false_iff_not
inductive Mk (t : List (List Int)) (gens : List Int) : Nat → Prop
  | gen {g : Int} (h : g ∈ gens) : Mk t gens g.toNat
  | mul {a b : Nat} (ha : Mk t gens a) (hb : Mk t gens b) : Mk t gens (en t a b)
theorem Mk.mono {t : List (List Int)} {g h : List Int} (hs : ∀ x ∈ g, x ∈ h) {a : Nat} (m : Mk t g a) : Mk t h a := by
  induction m with
  | gen hm => exact .gen (hs _ hm)
  | mul _ _ ih1 ih2 => exact .mul ih1 ih2
structure Spans (t : List (List Int)) (gens : List Int) : Prop where
  el : ∀ g ∈ gens, 0 ≤ g ∧ g < t.length
  all : ∀ x, x < t.length → Mk t gens x
theorem Mk.lt {t : List (List Int)} {gens : List Int} (h : Sh t) (hg : ∀ g ∈ gens, 0 ≤ g ∧ g < t.length) {a : Nat} (m : Mk t gens a) : a < t.length := by
  induction m with
  | gen hm => have := hg _ hm; omega
  | mul _ _ h1 h2 => exact (h.ent h1 h2).2
theorem Mk.light {t : List (List Int)} {gens : List Int} (h : Sh t) (hg : ∀ g ∈ gens, 0 ≤ g ∧ g < t.length) (hl : ∀ g ∈ gens, Lt t g.toNat) {a : Nat} (m : Mk t gens a) : Lt t a := by
  induction m with
  | gen hm => exact hl _ hm
  | mul h1 h2 ih1 ih2 =>
    rename_i a b
    intro x y hx hy
    have ha := h1.lt h hg
    have hb := h2.lt h hg
    rw [← ih1 x b hx hb, ih2 (en t x a) y (h.ent hx ha).2 hy, ih1 x (en t b y) hx (h.ent hb hy).2, ← ih2 a y ha hy]
theorem light_assoc {t : List (List Int)} {gens : List Int} (h : Sh t) (hs : Spans t gens) : lightB t gens = true ↔ Assoc t := by
  unfold lightB
  rw [decide_eq_true_iff]
  constructor
  · intro hl g hg; exact (hs.all g hg).light h hs.el hl
  · intro ha g hg; exact ha _ (by have := hs.el g hg; omega)
noncomputable def validV (t : List (List Int)) : Int := if shapeV t ≠ 0 then shapeV t else if Assoc t then 0 else 5
structure Semi (t : List (List Int)) : Prop extends Sh t where
  assoc : Assoc t
theorem valid_zero {t : List (List Int)} : validV t = 0 ↔ Semi t := by
  unfold validV
  split
  · rename_i h; exact ⟨fun h' => absurd h' h, fun h' => absurd (shape_zero.2 h'.toSh) h⟩
  · rename_i h
    have h : shapeV t = 0 := Classical.byContradiction h
    split
    · rename_i ha; exact ⟨fun _ => ⟨shape_zero.1 h, ha⟩, fun _ => rfl⟩
    · rename_i ha; exact ⟨fun h' => by omega, fun h' => absurd h'.assoc ha⟩
/-! ### Identities and groups -/
def Neutral (t : List (List Int)) (e : Nat) : Prop := ∀ x, x < t.length → en t e x = x ∧ en t x e = x
noncomputable def idV (t : List (List Int)) : Int := if h : ∃ e : Nat, e < t.length ∧ Neutral t e then ((Classical.choose h : Nat) : Int) else -1
theorem neutral_unique {t : List (List Int)} {e f : Nat} (he : e < t.length) (hf : f < t.length) (h : Neutral t e) (h' : Neutral t f) : e = f := by
  rw [← (h' e he).1, (h f hf).2]
theorem id_of {t : List (List Int)} {e : Nat} (he : e < t.length) (h : Neutral t e) : idV t = e := by
  have hx : ∃ e : Nat, e < t.length ∧ Neutral t e := ⟨e, he, h⟩
  unfold idV
  rw [dif_pos hx]
  have := Classical.choose_spec hx
  rw [neutral_unique this.1 he this.2 h]
theorem id_none {t : List (List Int)} (h : ∀ e, e < t.length → ¬ Neutral t e) : idV t = -1 := by
  unfold idV
  rw [dif_neg]
  rintro ⟨e, he, hn⟩
  exact h e he hn
theorem id_cases (t : List (List Int)) : (∃ e : Nat, e < t.length ∧ Neutral t e ∧ idV t = e) ∨ ((∀ e, e < t.length → ¬ Neutral t e) ∧ idV t = -1) := by
  by_cases h : ∃ e : Nat, e < t.length ∧ Neutral t e
  · obtain ⟨e, he, hn⟩ := h
    exact .inl ⟨e, he, hn, id_of he hn⟩
  · have h' : ∀ e, e < t.length → ¬ Neutral t e := fun e he hn => h ⟨e, he, hn⟩
    exact .inr ⟨h', id_none h'⟩
def Inv (t : List (List Int)) (e x y : Nat) : Prop := en t x y = e ∧ en t y x = e
structure Grp (t : List (List Int)) : Prop extends Semi t where
  inv : ∃ e : Nat, e < t.length ∧ Neutral t e ∧ ∀ x, x < t.length → ∃ y, y < t.length ∧ Inv t e x y
noncomputable def grpB (t : List (List Int)) : Bool := decide (Grp t)
theorem grpB_true {t : List (List Int)} : grpB t = true ↔ Grp t := by unfold grpB; exact decide_eq_true_iff
theorem grpB_false {t : List (List Int)} : grpB t = false ↔ ¬ Grp t := by unfold grpB; exact decide_eq_false_iff_not
theorem inv_right {t : List (List Int)} (h : Semi t) {e x y z : Nat} (he : Neutral t e) (hx : x < t.length) (hy : y < t.length) (hz : z < t.length) (hi : Inv t e x z) (hr : en t x y = e) : y = z := by
  have h1 := assoc3 h.assoc hz hx hy
  rw [hi.2, hr, (he y hy).1, (he z hz).2] at h1
  exact h1
end Go.Proofs.Ytjlkhjgnfnfmgaa
end
section
/- Green's relations of a table: the ideals of its elements and their classes. Plain; no program. -/
namespace Go.Proofs.Ytjlkhjgnfnfmgaa
open Go Go.AM
def inRB (t : List (List Int)) (y x : Nat) : Bool := decide (x = y) || (t.getD y []).contains (x : Int)
def inLB (t : List (List Int)) (y x : Nat) : Bool := decide (x = y) || t.any fun row => row.getD y 0 == (x : Int)
def inJB (t : List (List Int)) (y x : Nat) : Bool := (List.range t.length).any fun z => inLB t y z && inRB t z x
def rep (e : Nat → Nat → Bool) (x : Nat) : Nat := ((List.range x).find? fun y => e x y && e y x).getD x
def repsL (n : Nat) (e : Nat → Nat → Bool) : List Int := (List.range n).map fun x => ((rep e x : Nat) : Int)
def clsL (n : Nat) (e : Nat → Nat → Bool) : List Int := canon (repsL n e)
/-! ### In a semigroup -/
/-! ### The classes of a table -/
def classJ (t : List (List Int)) : List Int := clsL t.length (inJB t)
def numJ (t : List (List Int)) : Nat := classN (classJ t)
end Go.Proofs.Ytjlkhjgnfnfmgaa
end
section
/- Plain: equivalences that pairs generate; classes made one; canonical numbers of classes. -/
namespace Go.Proofs.Ytjlkhjgnfnfmgaa
def disI (n : Nat) : List Int := (List.range n).map fun i : Nat => (i : Int)
theorem disI_len (n : Nat) : (disI n).length = n := by simp [disI]
theorem disI_get {n i : Nat} (h : i < n) : (disI n).getD i 0 = (i : Int) := by simp [disI, List.getD, h]
theorem mem_disI {n : Nat} {x : Int} : x ∈ disI n ↔ 0 ≤ x ∧ x < (n : Int) := by
  unfold disI
  rw [List.mem_map]
  constructor
  · rintro ⟨i, hi, rfl⟩; have := List.mem_range.1 hi; omega
  · intro h; exact ⟨x.toNat, List.mem_range.2 (by omega), by omega⟩
end Go.Proofs.Ytjlkhjgnfnfmgaa
end
section
/- Orders by a comparison; sorted lists; the lexicographic order and the order by size. Plain. -/
namespace Go.Proofs.Ytjlkhjgnfnfmgaa
open Go Go.AM
structure TotC {α : Type} (c : α → α → Int) : Prop where
  swap : ∀ a b, c b a = - c a b
  eq : ∀ a b, c a b = 0 → a = b
  trans : ∀ a b d, c a b < 0 → c b d < 0 → c a d < 0
theorem TotC.self {α : Type} {c : α → α → Int} (h : TotC c) (a : α) : c a a = 0 := by have := h.swap a a; omega
def cmpI (a b : Int) : Int := if a < b then -1 else if b < a then 1 else 0
theorem cmpI_tot : TotC cmpI where
  swap a b := by unfold cmpI; split <;> split <;> (try split) <;> omega
  eq a b := by unfold cmpI; split <;> (try split) <;> omega
  trans a b d := by unfold cmpI; intro h1 h2; split at h1 <;> (try split at h1) <;> split at h2 <;> (try split at h2) <;> first | omega | (rw [if_pos (by omega)]; omega)
def cmpL : List Int → List Int → Int
  | [], [] => 0 | [], _ :: _ => -1 | _ :: _, [] => 1 | a :: l, b :: m => if cmpI a b ≠ 0 then cmpI a b else cmpL l m
theorem cmpL_swap : ∀ a b : List Int, cmpL b a = - cmpL a b
  | [], [] => rfl
  | [], _ :: _ => rfl
  | _ :: _, [] => rfl
  | a :: l, b :: m => by
    have e := cmpI_tot.swap a b
    have ih := cmpL_swap l m
    simp only [cmpL]
    by_cases h : cmpI a b = 0
    · rw [if_neg (by omega), if_neg (by omega), ih]
    · rw [if_pos (by omega), if_pos h, e]
theorem cmpL_eq : ∀ a b : List Int, cmpL a b = 0 → a = b
  | [], [], _ => rfl
  | [], _ :: _, h => by simp [cmpL] at h
  | _ :: _, [], h => by simp [cmpL] at h
  | a :: l, b :: m, h => by
    simp only [cmpL] at h
    by_cases h0 : cmpI a b = 0
    · rw [if_neg (by omega)] at h
      rw [cmpI_tot.eq a b h0, cmpL_eq l m h]
    · rw [if_pos h0] at h; exact absurd h h0
theorem cmpL_trans : ∀ a b d : List Int, cmpL a b < 0 → cmpL b d < 0 → cmpL a d < 0
  | [], [], _, h, _ => by simp [cmpL] at h
  | [], _ :: _, [], _, h => by simp [cmpL] at h
  | [], _ :: _, _ :: _, _, _ => by simp [cmpL]
  | _ :: _, [], _, h, _ => by simp [cmpL] at h
  | _ :: _, _ :: _, [], _, h => by simp [cmpL] at h
  | a :: l, b :: m, d :: n, h1, h2 => by
    simp only [cmpL] at h1 h2 ⊢
    have ih := cmpL_trans l m n
    by_cases e1 : cmpI a b = 0
    · rw [if_neg (by omega)] at h1
      obtain rfl := cmpI_tot.eq a b e1
      by_cases e2 : cmpI a d = 0
      · rw [if_neg (by omega)] at h2 ⊢; exact ih h1 h2
      · rw [if_pos e2] at h2 ⊢; exact h2
    · rw [if_pos e1] at h1
      by_cases e2 : cmpI b d = 0
      · obtain rfl := cmpI_tot.eq b d e2
        rw [if_pos e1]; exact h1
      · rw [if_pos e2] at h2
        have := cmpI_tot.trans a b d h1 h2
        rw [if_pos (by omega)]; exact this
theorem cmpL_tot : TotC cmpL := ⟨cmpL_swap, cmpL_eq, cmpL_trans⟩
def Srt {α : Type} (c : α → α → Int) (l : List α) : Prop := l.Pairwise fun a b => c a b < 0
def srt {α : Type} (c : α → α → Int) (l : List α) : List α := l.mergeSort fun a b => decide (c a b ≤ 0)
section
variable {α : Type} {c : α → α → Int}
theorem Srt.nodup (h : TotC c) {l : List α} (hs : Srt c l) : l.Nodup := hs.imp fun {a b} hab e => by subst e; have := h.self a; omega
theorem le_trans' (h : TotC c) {a b d : α} (h1 : c a b ≤ 0) (h2 : c b d ≤ 0) : c a d ≤ 0 := by
  by_cases e1 : c a b = 0
  · obtain rfl := h.eq _ _ e1; exact h2
  · by_cases e2 : c b d = 0
    · obtain rfl := h.eq _ _ e2; exact h1
    · have := h.trans a b d (by omega) (by omega); omega
theorem srt_perm (l : List α) : (srt c l).Perm l := List.mergeSort_perm _ _
theorem srt_mem {l : List α} {x : α} : x ∈ srt c l ↔ x ∈ l := (srt_perm l).mem_iff
theorem srt_len (l : List α) : (srt c l).length = l.length := (srt_perm l).length_eq
theorem srt_le (h : TotC c) (l : List α) : (srt c l).Pairwise fun a b => c a b ≤ 0 := by
  have := List.pairwise_mergeSort (le := fun a b => decide (c a b ≤ 0)) (fun a b d h1 h2 => decide_eq_true (le_trans' h (of_decide_eq_true h1) (of_decide_eq_true h2)))
    (fun a b => by
      have := h.swap a b
      by_cases h0 : c a b ≤ 0
      · simp [h0]
      · have : c b a ≤ 0 := by omega
        simp [this]) l
  exact this.imp fun {a b} hab => of_decide_eq_true hab
theorem srt_srt (h : TotC c) {l : List α} (hn : l.Nodup) : Srt c (srt c l) := by
  have h1 := srt_le h l
  have h2 : (srt c l).Nodup := (srt_perm l).nodup_iff.2 hn
  have := h1.and h2
  refine this.imp fun {a b} hab => ?_
  have : c a b ≠ 0 := fun e => hab.2 (h.eq _ _ e)
  omega
theorem perm_sorted (h : TotC c) : ∀ {l m : List α}, l.Pairwise (fun a b => c a b ≤ 0) → m.Pairwise (fun a b => c a b ≤ 0) → l.Perm m → l = m
  | [], m, _, _, hp => by rw [List.nil_perm.1 hp]
  | a :: l, [], _, _, hp => by have := hp.length_eq; simp at this
  | a :: l, b :: m, h1, h2, hp => by
    have h1' := List.pairwise_cons.1 h1
    have h2' := List.pairwise_cons.1 h2
    have e : a = b := by
      have ha : a ∈ b :: m := hp.mem_iff.1 (by simp)
      have hb : b ∈ a :: l := hp.mem_iff.2 (by simp)
      rcases List.mem_cons.1 ha with e | ha
      · exact e
      · rcases List.mem_cons.1 hb with e | hb
        · exact e.symm
        · have g1 := h2'.1 a ha
          have g2 := h1'.1 b hb
          have := h.swap a b
          exact h.eq _ _ (by omega)
    subst e
    rw [perm_sorted h h1'.2 h2'.2 hp.cons_inv]
theorem srt_uniq (h : TotC c) {l m : List α} (hm : m.Pairwise fun a b => c a b ≤ 0) (hp : m.Perm l) : srt c l = m :=
  perm_sorted h (srt_le h l) hm ((srt_perm l).trans hp.symm)
theorem sorted_uniq (h : TotC c) {l m : List α} (hl : Srt c l) (hm : Srt c m) (he : ∀ x, x ∈ l ↔ x ∈ m) : l = m :=
  perm_sorted h (hl.imp fun h => by omega) (hm.imp fun h => by omega) ((List.perm_ext_iff_of_nodup (hl.nodup h) (hm.nodup h)).2 he)
theorem srt_of (h : TotC c) {l m : List α} (hl : l.Nodup) (hm : Srt c m) (he : ∀ x, x ∈ l ↔ x ∈ m) : srt c l = m :=
  sorted_uniq h (srt_srt h hl) hm fun x => by rw [srt_mem, he x]
end
theorem cmpL_at : ∀ {a b : List Int} {i : Nat}, (∀ j, j < i → a.getD j 0 = b.getD j 0) → i ≤ a.length → i ≤ b.length → cmpL a b = cmpL (a.drop i) (b.drop i)
  | a, b, 0, _, _, _ => by simp
  | [], _, i + 1, _, h, _ => by simp at h
  | _ :: _, [], i + 1, _, _, h => by simp at h
  | x :: a, y :: b, i + 1, h, h1, h2 => by
    have e : x = y := by simpa using h 0 (by omega)
    subst e
    rw [List.drop_succ_cons, List.drop_succ_cons, ← cmpL_at (a := a) (b := b) (i := i) (fun j hj => by simpa using h (j + 1) (by omega)) (by simpa using h1) (by simpa using h2)]
    simp [cmpL, cmpI_tot.self]
theorem cmpL_here {a b : List Int} {i : Nat} (h : ∀ j, j < i → a.getD j 0 = b.getD j 0) (h1 : i < a.length) (h2 : i < b.length) (hne : a.getD i 0 ≠ b.getD i 0) : cmpL a b = cmpI (a.getD i 0) (b.getD i 0) := by
  rw [cmpL_at h (by omega) (by omega), List.drop_eq_getElem_cons h1, List.drop_eq_getElem_cons h2]
  rw [getD_eq h1, getD_eq h2] at *
  simp only [cmpL]
  rw [if_pos fun e => hne (cmpI_tot.eq _ _ e)]
theorem cmpL_end {a b : List Int} {i : Nat} (h : ∀ j, j < i → a.getD j 0 = b.getD j 0) (h1 : i ≤ a.length) (h2 : i ≤ b.length) (he : i = a.length ∨ i = b.length) : cmpL a b = cmpI a.length b.length := by
  rw [cmpL_at h h1 h2]
  unfold cmpI
  rcases he with he | he
  · rw [List.drop_of_length_le (by omega)]
    cases hb : b.drop i with
    | nil =>
      have := congrArg List.length hb
      simp at this
      rw [if_neg (by omega), if_neg (by omega)]; rfl
    | cons =>
      have := congrArg List.length hb
      simp at this
      rw [if_pos (by omega)]; rfl
  · rw [show b.drop i = [] from List.drop_of_length_le (by omega)]
    cases ha : a.drop i with
    | nil =>
      have := congrArg List.length ha
      simp at this
      rw [if_neg (by omega), if_neg (by omega)]; rfl
    | cons =>
      have := congrArg List.length ha
      simp at this
      rw [if_neg (by omega), if_pos (by omega)]; rfl
end Go.Proofs.Ytjlkhjgnfnfmgaa
end
section
/- Plain: how the reference closes a partition under products. -/
namespace Go.Proofs.Ytjlkhjgnfnfmgaa
open Go Go.AM
theorem nodup_sub {α : Type} [DecidableEq α] : ∀ {A B : List α}, A.Nodup → (∀ x ∈ A, x ∈ B) → A.length ≤ B.length
  | [], _, _, _ => Nat.zero_le _
  | a :: A, B, hA, h => by
    have ha := h a (by simp)
    have hn := List.nodup_cons.1 hA
    have := nodup_sub (B := B.erase a) hn.2 fun x hx => (List.mem_erase_of_ne fun e => by subst e; exact hn.1 hx).2 (h x (List.mem_cons_of_mem _ hx))
    have hl := List.length_erase_of_mem ha
    have hp := List.length_pos_of_mem ha
    simp only [List.length_cons]; omega
end Go.Proofs.Ytjlkhjgnfnfmgaa
end
section
/- Rees matrix semigroups, in plain words: nothing of the program stands here. -/
namespace Go.Proofs.Ytjlkhjgnfnfmgaa
open Classical
theorem take_snoc {α : Type} {l : List α} {i : Nat} {d : α} (h : i < l.length) : l.take (i + 1) = l.take i ++ [l.getD i d] := by
  rw [List.take_succ_eq_append_getElem h]; simp [List.getD, h]
theorem ext_getD {α : Type} {l m : List α} (d : α) (hl : l.length = m.length) (h : ∀ i, i < l.length → l.getD i d = m.getD i d) : l = m := by
  refine List.ext_getElem hl fun i h1 h2 => ?_
  have := h i h1
  simpa [List.getD, h1, h2] using this
end Go.Proofs.Ytjlkhjgnfnfmgaa
end
section
/- Plain: permutations, and the group that some of them generate. -/
namespace Go.Proofs.Ytjlkhjgnfnfmgaa
open Go Go.AM
structure Perm (n : Nat) (p : List Int) : Prop where
  len : p.length = n
  rng : ∀ x ∈ p, 0 ≤ x ∧ x < (n : Int)
  nd : p.Nodup
def cmpP (f g : List Int) : List Int := f.map fun y => g.getD y.toNat 0
section
variable {n : Nat} {f g h : List Int}
theorem cmpP_len : (cmpP f g).length = f.length := by simp [cmpP]
theorem cmpP_get {i : Nat} (hi : i < f.length) : (cmpP f g).getD i 0 = g.getD (f.getD i 0).toNat 0 := by simp [cmpP, List.getD, hi]
theorem Perm.at (hf : Perm n f) {i : Nat} (hi : i < n) : 0 ≤ f.getD i 0 ∧ f.getD i 0 < (n : Int) := hf.rng _ (getD_mem (by rw [hf.len]; exact hi))
theorem nodup_inj {l : List Int} (hl : l.Nodup) {i j : Nat} (hi : i < l.length) (hj : j < l.length) (e : l.getD i 0 = l.getD j 0) : i = j := by
  rw [getD_eq hi, getD_eq hj] at e
  exact (List.getElem_inj hl).1 e
theorem perm_dis (n : Nat) : Perm n (disI n) := ⟨disI_len n, fun x hx => mem_disI.1 hx, by
  refine List.nodup_iff_pairwise_ne.2 (List.pairwise_iff_getElem.2 fun a b ha hb hab => ?_)
  simp [disI]
  omega⟩
theorem Perm.cmp (hf : Perm n f) (hg : Perm n g) : Perm n (cmpP f g) := by
  refine ⟨by rw [cmpP_len, hf.len], fun x hx => ?_, ?_⟩
  · obtain ⟨y, hy, rfl⟩ := List.mem_map.1 hx
    have := hf.rng y hy
    exact hg.at (by omega)
  · refine List.nodup_iff_pairwise_ne.2 (List.pairwise_iff_getElem.2 fun a b ha hb hab e => ?_)
    have hla : a < f.length := by rw [cmpP_len] at ha; exact ha
    have hlb : b < f.length := by rw [cmpP_len] at hb; exact hb
    have e : (cmpP f g).getD a 0 = (cmpP f g).getD b 0 := by rw [getD_eq ha, getD_eq hb]; exact e
    rw [cmpP_get hla, cmpP_get hlb] at e
    have h1 := hf.at (i := a) (by rw [← hf.len]; exact hla)
    have h2 := hf.at (i := b) (by rw [← hf.len]; exact hlb)
    have h3 := nodup_inj hg.nd (by rw [hg.len]; omega) (by rw [hg.len]; omega) e
    have h4 := nodup_inj hf.nd hla hlb (by omega)
    omega
theorem cmpP_assoc (hf : Perm n f) (hg : Perm n g) : cmpP (cmpP f g) h = cmpP f (cmpP g h) := by
  refine ext_getD 0 (by rw [cmpP_len, cmpP_len, cmpP_len]) fun i hi => ?_
  rw [cmpP_len, cmpP_len] at hi
  have h1 := hf.at (i := i) (by rw [← hf.len]; exact hi)
  rw [cmpP_get (by rw [cmpP_len]; exact hi), cmpP_get hi, cmpP_get hi, cmpP_get (by rw [hg.len]; omega)]
theorem dis_cmp (hg : Perm n g) : cmpP (disI n) g = g := by
  refine ext_getD 0 (by rw [cmpP_len, disI_len, hg.len]) fun i hi => ?_
  rw [cmpP_len, disI_len] at hi
  rw [cmpP_get (by rw [disI_len]; exact hi), disI_get hi, Int.toNat_natCast]
theorem cmp_dis (hf : Perm n f) : cmpP f (disI n) = f := by
  refine ext_getD 0 (by rw [cmpP_len]) fun i hi => ?_
  rw [cmpP_len] at hi
  have h1 := hf.at (i := i) (by rw [← hf.len]; exact hi)
  rw [cmpP_get hi, disI_get (by omega)]; omega
end
inductive Wd (n : Nat) (G : List (List Int)) : List Int → Prop
  | one : Wd n G (disI n)
  | mul {f g : List Int} (h : Wd n G f) (hg : g ∈ G) : Wd n G (cmpP f g)
section
variable {n : Nat} {G H E : List (List Int)}
theorem Wd.perm (hG : ∀ g ∈ G, Perm n g) {f : List Int} (h : Wd n G f) : Perm n f := by
  induction h with
  | one => exact perm_dis n
  | mul _ hg ih => exact ih.cmp (hG _ hg)
theorem Wd.mono (hs : ∀ g ∈ G, g ∈ H) {f : List Int} (h : Wd n G f) : Wd n H f := by
  induction h with
  | one => exact .one
  | mul _ hg ih => exact .mul ih (hs _ hg)
theorem Wd.cmp (hG : ∀ g ∈ G, Perm n g) {f g : List Int} (hf : Wd n G f) (hg : Wd n G g) : Wd n G (cmpP f g) := by
  induction hg with
  | one => rw [cmp_dis (hf.perm hG)]; exact hf
  | mul h1 h2 ih => rw [← cmpP_assoc (hf.perm hG) (h1.perm hG)]; exact .mul ih h2
theorem Wd.least {Q : List Int → Prop} (h0 : Q (disI n)) (h1 : ∀ f g, Q f → g ∈ G → Q (cmpP f g)) {f : List Int} (h : Wd n G f) : Q f := by
  induction h with
  | one => exact h0
  | mul _ hg ih => exact h1 _ _ ih hg
theorem Wd.all {U : List (List Int)} (hU : ∀ g ∈ U, Perm n g) (hE : ∀ f ∈ E, Perm n f) (h0 : disI n ∈ E) (h1 : ∀ f ∈ E, ∀ g ∈ U, cmpP f g ∈ E) (hG : ∀ g ∈ G, Wd n U g) {f : List Int} (h : Wd n G f) : f ∈ E := by
  have key : ∀ g, Wd n U g → ∀ f ∈ E, cmpP f g ∈ E := fun g hg => by
    induction hg with
    | one => exact fun f hf => by rw [cmp_dis (hE f hf)]; exact hf
    | mul h2 h3 ih => exact fun f hf => by rw [← cmpP_assoc (hE f hf) (h2.perm hU)]; exact h1 _ (ih f hf) _ h3
  exact Wd.least h0 (fun f g hf hg => key g (hG g hg) f hf) h
end
def arrL (n : Nat) : Nat → List (List Int)
  | 0 => [[]]
  | k + 1 => (arrL n k).flatMap fun l => ((disI n).filter fun x => decide (x ∉ l)).map fun x => x :: l
theorem mem_arr {n : Nat} : ∀ {l : List Int}, l.Nodup → (∀ x ∈ l, 0 ≤ x ∧ x < (n : Int)) → l ∈ arrL n l.length
  | [], _, _ => List.mem_singleton.2 rfl
  | a :: l, hn, hr => by
    rw [List.nodup_cons] at hn
    refine List.mem_flatMap.2 ⟨l, mem_arr hn.2 fun x hx => hr x (List.mem_cons_of_mem _ hx), List.mem_map.2 ⟨a, List.mem_filter.2 ⟨mem_disI.2 (hr a (List.mem_cons_self ..)), decide_eq_true hn.1⟩, rfl⟩⟩
theorem arr_few : ∀ n, n ≤ 5 → (arrL n n).length ≤ 120 := by decide +kernel
theorem perms_few {n : Nat} (hn : n ≤ 5) {E : List (List Int)} (hd : E.Nodup) (hE : ∀ p ∈ E, Perm n p) : E.length ≤ 120 := by
  refine Nat.le_trans (nodup_sub hd (B := arrL n n) fun p hp => ?_) (arr_few n hn)
  have := mem_arr (hE p hp).nd (hE p hp).rng
  rw [(hE p hp).len] at this; exact this
noncomputable def wdB (n : Nat) (G : List (List Int)) (p : List Int) : Bool := @decide (Wd n G p) (Classical.propDecidable _)
theorem wdB_true {n : Nat} {G : List (List Int)} {p : List Int} : wdB n G p = true ↔ Wd n G p := by unfold wdB; exact @decide_eq_true_iff _ (Classical.propDecidable _)
noncomputable def grpL (n : Nat) (G : List (List Int)) : List (List Int) := srt cmpL (firsts ((arrL n n).filter (wdB n G)))
theorem mem_grp {n : Nat} {G : List (List Int)} (hG : ∀ g ∈ G, Perm n g) {p : List Int} : p ∈ grpL n G ↔ Wd n G p := by
  unfold grpL
  rw [srt_mem, mem_firsts, List.mem_filter, wdB_true]
  refine ⟨fun h => h.2, fun h => ⟨?_, h⟩⟩
  have hp := h.perm hG
  have := mem_arr hp.nd hp.rng
  rw [hp.len] at this; exact this
theorem grp_srt {n : Nat} {G : List (List Int)} : Srt cmpL (grpL n G) := srt_srt cmpL_tot (firsts_nodup _)
theorem grp_of {n : Nat} {G E : List (List Int)} (hG : ∀ g ∈ G, Perm n g) (hd : E.Nodup) (hE : ∀ p, p ∈ E ↔ Wd n G p) : srt cmpL E = grpL n G :=
  srt_of cmpL_tot hd grp_srt fun p => by rw [hE, mem_grp hG]
end Go.Proofs.Ytjlkhjgnfnfmgaa
end
section
/- Plain: orbits and blocks of permutations. -/
namespace Go.Proofs.Ytjlkhjgnfnfmgaa
open Go Go.AM
def imN (f : List Int) (a : Nat) : Nat := (f.getD a 0).toNat
theorem Perm.im {n : Nat} {f : List Int} (hf : Perm n f) {a : Nat} (ha : a < n) : imN f a < n ∧ f.getD a 0 = (imN f a : Int) := by
  have := hf.at ha
  unfold imN; omega
end Go.Proofs.Ytjlkhjgnfnfmgaa
end
section
/- The reference's partitions (semigroupref03) and relations of Green (semigroupref15): contracts. -/
namespace Go.Proofs.Ytjlkhjgnfnfmgaa
open Go Go.AM
set_option maxRecDepth 100000
def setB (n : Nat) (f : Nat → Bool) : List Bool := (List.range n).map f
theorem setB_len (n : Nat) (f : Nat → Bool) : (setB n f).length = n := by simp [setB]
theorem setB_get {n : Nat} {f : Nat → Bool} {x : Nat} (hx : x < n) : (setB n f).getD x false = f x := by
  unfold setB
  rw [List.getD, List.getElem?_map, List.getElem?_range hx]; rfl
theorem setB_of {n : Nat} {f : Nat → Bool} {r : List Bool} (hl : r.length = n) (h : ∀ x, x < n → r.getD x false = f x) : r = setB n f := by
  refine List.ext_getElem (by rw [hl, setB_len]) fun j h1 h2 => ?_
  rw [← getD_eq (d := false) h1, ← getD_eq (d := false) h2, h j (by omega), setB_get (by omega)]
theorem setB_next {n i : Nat} {f : Nat → Bool} {r : List Bool} (hl : r.length = n) (h : ∀ x, x < n → r.getD x false = f x) (hi : i < n) : (r.set i true).length = n ∧ ∀ x, x < n → (r.set i true).getD x false = (f x || decide (x = i)) := by
  refine ⟨by rw [List.length_set]; exact hl, fun x hx => ?_⟩
  by_cases hxi : x = i
  · subst hxi; rw [getD_set_eq (by omega)]; simp
  · rw [getD_set_ne (Ne.symm hxi), h x hx]; simp [hxi]
theorem rep_false (n x : Nat) : (List.replicate n false).getD x false = false := by
  simp only [List.getD, List.getElem?_replicate]; split <;> rfl
theorem rset_k (l : List Int) (n : Nat) (hn : n ≤ 400) (hl : l.length ≤ 140737488355328) : fnK TY SP Try.f112 [.ro (.ints .i64 l), .int .i64 n] (.new (.bools (setB n fun x => l.contains (x : Int)))) := by
  refine And.intro (by omega) ?_
  refine And.intro (by omega) ?_
  refine Exists.intro [] <| lp2 (fun (i : Nat) (_ : List Bool) => [(12, .int .i64 i)]) (fun _ r => [(9, .vec 0 (.bools r) [])]) (fun i r => i ≤ l.length ∧ r.length = n ∧ ∀ x, x < n → r.getD x false = (l.take i).contains (x : Int)) (fun i _ => l.length - i) 0 (List.replicate n false) ⟨Nat.zero_le _, by simp, fun x hx => by rw [rep_false]; simp⟩ (by repeat' first | refine And.intro ?_ ?_ | exact True.intro | (show (_ : Int) = (_ : Int); omega) | omega | exact rfl | (simp only [RO.len]; omega)) ?_
  rintro i r ⟨hi, hr, hs⟩
  refine And.intro (fun h1 => ?_) (fun h1 => ?_)
  · have hil : i < l.length := by omega
    have skip : ¬ (0 ≤ l.getD i 0 ∧ l.getD i 0 < n) → ∀ x, x < n → r.getD x false = (l.take (i + 1)).contains (x : Int) := fun hno x hx => by
      rw [hs x hx, take_snoc (d := 0) hil, Bool.eq_iff_iff]
      simp only [List.contains_iff_mem, List.mem_append, List.mem_singleton]
      constructor
      · exact .inl
      · rintro (h | h)
        · exact h
        · omega
    refine And.intro (by omega) ?_
    refine And.intro (fun h2 => ?_) (fun h2 => ?_)
    · have h2 : 0 ≤ l.getD i 0 := h2
      refine And.intro (fun h3 => ?_) (fun h3 => ?_)
      · have h3 : l.getD i 0 < (n : Int) := h3
        refine And.intro (show 0 ≤ l.getD i 0 ∧ l.getD i 0 < (r.length : Int) by omega) ?_
        refine And.intro (show (0 : Int) ≤ l.getD i 0 by omega) ?_
        refine And.intro (by omega) ?_
        have hnx := setB_next hr hs (i := (l.getD i 0).toNat) (by omega)
        refine nx (i + 1, r.set (l.getD i 0).toNat true) ⟨by omega, hnx.1, fun x hx => ?_⟩ (show l.length - (i + 1) < l.length - i by omega) (by repeat' first | refine And.intro ?_ ?_ | exact True.intro | (show (_ : Int) = (_ : Int); omega) | omega | exact rfl | (simp only [RO.len]; omega))
        rw [hnx.2 x hx, take_snoc (d := 0) hil, Bool.eq_iff_iff]
        simp only [Bool.or_eq_true, decide_eq_true_eq, List.contains_iff_mem, List.mem_append, List.mem_singleton]
        exact or_congr Iff.rfl ⟨fun h => by omega, fun h => by omega⟩
      · have h3 : (n : Int) ≤ l.getD i 0 := h3
        refine And.intro (by omega) ?_
        exact nx (i + 1, r) ⟨by omega, hr, skip (by omega)⟩ (show l.length - (i + 1) < l.length - i by omega) (by repeat' first | refine And.intro ?_ ?_ | exact True.intro | (show (_ : Int) = (_ : Int); omega) | omega | exact rfl | (simp only [RO.len]; omega))
    · have h2 : l.getD i 0 < 0 := h2
      refine And.intro (by omega) ?_
      exact nx (i + 1, r) ⟨by omega, hr, skip (by omega)⟩ (show l.length - (i + 1) < l.length - i by omega) (by repeat' first | refine And.intro ?_ ?_ | exact True.intro | (show (_ : Int) = (_ : Int); omega) | omega | exact rfl | (simp only [RO.len]; omega))
  · refine And.intro ?_ trivial
    refine And.intro rfl ?_
    rw [setB_of hr fun x hx => by rw [hs x hx, List.take_of_length_le (by omega)]]
theorem rset_fn (l : List Int) (n : Nat) (hn : n ≤ 400) : QF 112 [.ro (.ints .i64 l), .int .i64 n] (.new (.bools (setB n fun x => l.contains (x : Int)))) := mkQ Try.func112 (by decide +kernel) rfl (Nat.le_of_ble_eq_true rfl) fun hf => rset_k l n hn hf.1.1
end Go.Proofs.Ytjlkhjgnfnfmgaa
end
