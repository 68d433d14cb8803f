/- The abstract machine: its table of types against the program's. -/
import Derived.Test.YtmdlfcjbjjifoabAmState
import Derived.Laws.AppendOwn
import Derived.Laws.MakeOwn
namespace Go.AM
open Go

def zC (a : AV) (v : Value) : Prop := ∀ ρ w M, RepC ρ w M a v

def descOK : TyD → TypeDesc → Prop
  | .int k, .int k' => k = k' | .bool, .bool => True | .str, .string => True | .slice e, .slice e' => e = e' | .arr n e, .array n' e' => n = n' ∧ e = e'
  | .struct fs, .struct F => fs = F.toList.map (fun f => (f.offset, f.type)) | .map k e, .map k' e' => k = k' ∧ e = e'
  | .other, .struct _ => False | .other, .array _ _ => False | .other, _ => True | _, _ => False

def zKind (d : TyD) (z : Value) : Prop :=
  match d with
  | .int k => z = .int k 0 | .bool => z = .bool false | .slice _ => z = .slice none 0 0 | _ => True

def zeroOK (E : TyE) (z : Value) : Prop :=
  RepL zC E.zero z.cells.toList ∧ (isAggD E.d = true → ∃ cs, z = .agg cs) ∧ (isAggD E.d = false → isCell z) ∧ zKind E.d z ∧ E.zero.length = E.sz

structure TyRow (P : Program) (t : Nat) (E : TyE) : Prop where
  row : ∃ i u, P.info? t = some i ∧ P.underlying t = some u ∧ i.size = E.sz ∧ i.bytes = E.bytes ∧ descOK E.d u ∧ (E.zero ≠ [] → ∃ z, i.zero = some z ∧ zeroOK E z)

def ltAll (n : Nat) : List (Nat × Nat) → Bool
  | [] => true | (_, t) :: l => Nat.ble (t + 1) n && ltAll n l

def closedB (n : Nat) : List TyE → Bool
  | [] => true | E :: l => (match E.d with | .struct fs => ltAll n fs | _ => true) && closedB n l

structure TyOk (P : Program) (TY : List TyE) : Prop where
  row : ∀ t, t < TY.length → TyRow P t (nthT TY t)
  closed : ∀ t fs, (nthT TY t).d = .struct fs → ∀ x ∈ fs, x.2 < TY.length
  pos : ∃ m, P.types.size = m + 1

def natEq (a b : Nat) : Bool := Nat.beq a b

def cellB (a : AV) (v : Value) : Bool :=
  match a, v with
  | .int k n, .int k' n' => kq k k' && decide (n = n') && fitB k n
  | .bool (.lit b), .bool b' => b == b'
  | .nils, .slice none 0 0 => true
  | .any, .agg _ => false | .any, .tuple _ => false | .any, _ => true
  | _, _ => false

def cellsB : List AV → List Value → Bool
  | [], [] => true | a :: l, v :: m => cellB a v && cellsB l m | _, _ => false

def fieldsB : List (Nat × Nat) → List Field → Bool
  | [], [] => true | (o, t) :: l, f :: m => natEq o f.offset && natEq t f.type && fieldsB l m | _, _ => false

def descB (d : TyD) (u : TypeDesc) : Bool :=
  match d, u with
  | .int k, .int k' => kq k k' | .bool, .bool => true | .str, .string => true | .slice e, .slice e' => natEq e e' | .arr n e, .array n' e' => natEq n n' && natEq e e'
  | .struct fs, .struct F => fieldsB fs F.toList | .map k e, .map k' e' => natEq k k' && natEq e e'
  | .other, .struct _ => false | .other, .array _ _ => false | .other, _ => true | _, _ => false

def aggB (b : Bool) (z : Value) : Bool :=
  match b, z with | true, .agg _ => true | true, _ => false | false, .agg _ => false | false, .tuple _ => false | false, _ => true

def kindB (d : TyD) (z : Value) : Bool :=
  match d, z with
  | .int k, .int k' n => kq k k' && decide (n = 0) | .bool, .bool b => b == false | .slice _, .slice none 0 0 => true
  | .int _, _ => false | .bool, _ => false | .slice _, _ => false | _, _ => true

def zeroBB (E : TyE) (z : Value) : Bool := cellsB E.zero z.cells.toList && aggB (isAggD E.d) z && kindB E.d z && natEq E.zero.length E.sz

def rowB (P : Program) (t : Nat) (E : TyE) : Bool :=
  match P.info? t, P.underlying t with
  | some i, some u => natEq i.size E.sz && natEq i.bytes E.bytes && descB E.d u && (match E.zero, i.zero with | [], _ => true | _, some z => zeroBB E z | _, none => false)
  | _, _ => false

def rowsB (P : Program) : Nat → List TyE → Bool
  | _, [] => true | t, E :: l => rowB P t E && rowsB P (t + 1) l

theorem natEq_eq {a b : Nat} (h : natEq a b = true) : a = b := beq_iff'.1 h

theorem cellB_ok {a : AV} {v : Value} (h : cellB a v = true) : zC a v := by
  intro ρ w M
  cases a <;> cases v <;> simp only [cellB, Bool.and_eq_true, decide_eq_true_eq] at h <;> try (first | (cases h; done) | trivial)
  · obtain ⟨⟨h1, rfl⟩, h3⟩ := h
    obtain rfl := kq_eq h1
    exact ⟨rfl, fit_in h3⟩
  · rename_i e b
    cases e <;> simp at h
    subst h; rfl
  · rename_i a n m
    match a, n, m, h with
    | none, 0, 0, _ => rfl

theorem cellsB_ok : ∀ {l : List AV} {m : List Value}, cellsB l m = true → RepL zC l m
  | [], [], _ => trivial
  | a :: l, v :: m, h => by simp only [cellsB, Bool.and_eq_true] at h; exact ⟨cellB_ok h.1, cellsB_ok h.2⟩
  | [], _ :: _, h => by cases h
  | _ :: _, [], h => by cases h

theorem fieldsB_ok : ∀ {l : List (Nat × Nat)} {m : List Field}, fieldsB l m = true → l = m.map fun f => (f.offset, f.type)
  | [], [], _ => rfl
  | (o, t) :: l, f :: m, h => by
    simp only [fieldsB, Bool.and_eq_true] at h
    rw [List.map_cons, ← fieldsB_ok h.2, natEq_eq h.1.1, natEq_eq h.1.2]
  | [], _ :: _, h => by cases h
  | _ :: _, [], h => by cases h

theorem descB_ok {d : TyD} {u : TypeDesc} (h : descB d u = true) : descOK d u := by
  cases d <;> cases u <;> simp only [descB, Bool.and_eq_true] at h <;> try (first | (cases h; done) | trivial)
  · exact kq_eq h
  · exact natEq_eq h
  · exact ⟨natEq_eq h.1, natEq_eq h.2⟩
  · exact fieldsB_ok h
  · exact ⟨natEq_eq h.1, natEq_eq h.2⟩

theorem kindB_ok {d : TyD} {z : Value} (h : kindB d z = true) : zKind d z := by
  cases d <;> try trivial
  · cases z <;> simp only [kindB, Bool.and_eq_true, decide_eq_true_eq, Bool.false_eq_true] at h
    obtain ⟨h4, rfl⟩ := h
    obtain rfl := kq_eq h4; rfl
  · cases z <;> simp [kindB] at h
    subst h; rfl
  · cases z <;> simp only [kindB, Bool.false_eq_true] at h
    rename_i e a n m
    match a, n, m, h with
    | none, 0, 0, _ => rfl

theorem zeroBB_ok {E : TyE} {z : Value} (h : zeroBB E z = true) : zeroOK E z := by
  unfold zeroBB at h
  simp only [Bool.and_eq_true] at h
  obtain ⟨⟨⟨h1, h2⟩, h3⟩, h4⟩ := h
  refine ⟨cellsB_ok h1, fun ha => ?_, fun ha => ?_, kindB_ok h3, natEq_eq h4⟩
  · rw [ha] at h2; cases z <;> simp [aggB] at h2; exact ⟨_, rfl⟩
  · rw [ha] at h2; cases z <;> simp [aggB] at h2 <;> trivial

theorem rowB_ok {P : Program} {t : Nat} {E : TyE} (h : rowB P t E = true) : TyRow P t E := by
  unfold rowB at h
  split at h
  · rename_i i u hi hu
    simp only [Bool.and_eq_true] at h
    obtain ⟨⟨⟨h1, h2⟩, h3⟩, h4⟩ := h
    refine ⟨i, u, hi, hu, natEq_eq h1, natEq_eq h2, descB_ok h3, fun hne => ?_⟩
    split at h4
    · rename_i he; exact absurd he hne
    · rename_i z hz _; exact ⟨z, hz, zeroBB_ok h4⟩
    · cases h4
  · cases h

theorem rowsB_ok {P : Program} : ∀ {l : List TyE} {t : Nat}, rowsB P t l = true → ∀ i, i < l.length → TyRow P (t + i) (nthT l i)
  | [], _, _, i, hi => by simp at hi
  | E :: l, t, h, 0, _ => by simp only [rowsB, Bool.and_eq_true] at h; exact rowB_ok h.1
  | E :: l, t, h, i + 1, hi => by
    simp only [rowsB, Bool.and_eq_true] at h
    have := rowsB_ok h.2 i (by simpa using hi)
    rw [show t + (i + 1) = t + 1 + i from by omega]
    exact this

theorem ltAll_ok {n : Nat} : ∀ {l : List (Nat × Nat)}, ltAll n l = true → ∀ x ∈ l, x.2 < n
  | (o, t) :: l, h, x, hx => by
    simp only [ltAll, Bool.and_eq_true, Nat.ble_eq] at h
    rcases List.mem_cons.1 hx with rfl | hx
    · exact h.1
    · exact ltAll_ok h.2 x hx
  | [], _, _, hx => by cases hx

theorem closedB_ok {n : Nat} : ∀ {l : List TyE}, closedB n l = true → ∀ t fs, (nthT l t).d = .struct fs → ∀ x ∈ fs, x.2 < n
  | [], _, t, fs, hd, x, hx => by simp [nthT] at hd
  | E :: l, h, 0, fs, hd, x, hx => by
    simp only [closedB, Bool.and_eq_true] at h
    have hd : E.d = .struct fs := hd
    rw [hd] at h
    exact ltAll_ok h.1 x hx
  | E :: l, h, t + 1, fs, hd, x, hx => by
    simp only [closedB, Bool.and_eq_true] at h
    exact closedB_ok h.2 t fs hd x hx

theorem tyOk_of {P : Program} {TY : List TyE} (h : rowsB P 0 TY = true) (h' : closedB TY.length TY = true) (h'' : Nat.ble 1 P.types.size = true) : TyOk P TY :=
  ⟨fun t ht => by simpa using rowsB_ok h t ht, closedB_ok h', P.types.size - 1, by rw [Nat.ble_eq] at h''; omega⟩

theorem nthT_other : ∀ {l : List TyE} {t : Nat}, l.length ≤ t → nthT l t = ⟨.other, 0, 0, []⟩
  | [], _, _ => rfl
  | _ :: _, 0, h => by simp at h
  | _ :: l, t + 1, h => nthT_other (l := l) (by simpa using h)

theorem TyOk.at {P : Program} {TY : List TyE} (h : TyOk P TY) {t : Nat} (ht : (nthT TY t).sz ≠ 0 ∨ (nthT TY t).d ≠ .other) : TyRow P t (nthT TY t) := by
  rcases Nat.lt_or_ge t TY.length with h' | h'
  · exact h.row t h'
  · rw [nthT_other h'] at ht; simp at ht
end Go.AM
