import Derived.Test.YtkbhgnbnnbengaaPartLaw
import Derived.Test.YtkbhgnbnnbengaaAmRet
import Derived.Test.YtkbhgnbnnbengaaZero
import Derived.Test.YtkbhgnbnnbengaaRefPart
section
/- More idioms of stepping: loops with five to nine things that change. -/
namespace Go.Proofs.Ytkbhgnbnnbengaa
open Go Go.AM
abbrev un5 {A B C D E : Type} {γ : Sort _} (f : A → B → C → D → E → γ) (p : A × B × C × D × E) : γ := match p with | (a, b, c, d, e) => f a b c d e
theorem lp5 {A B C D E5 : Type} (U : A → B → C → D → E5 → List (Nat × AV)) (V : A → B → C → D → E5 → Store) (ok : A → B → C → D → E5 → Prop) (μ : A → B → C → D → E5 → Nat) (a0 : A) (b0 : B) (c0 : C) (d0 : D) (e0 : E5) {E Bd : (Y : Type) → (Y → List (Nat × AV)) → (Y → Store) → (Y → Prop) → (Y → Nat) → Y → Prop}
    (h0 : ok a0 b0 c0 d0 e0) (h1 : E (A × B × C × D × E5) (un5 U) (un5 V) (un5 ok) (un5 μ) (a0, b0, c0, d0, e0)) (h2 : ∀ a b c d e, ok a b c d e → Bd (A × B × C × D × E5) (un5 U) (un5 V) (un5 ok) (un5 μ) (a, b, c, d, e)) :
    ∃ (X : Type) (U : X → List (Nat × AV)) (V : X → Store) (ok : X → Prop) (μ : X → Nat) (x0 : X), (ok x0 ∧ E X U V ok μ x0) ∧ ∀ x, ok x → Bd X U V ok μ x :=
  ⟨A × B × C × D × E5, un5 U, un5 V, un5 ok, un5 μ, (a0, b0, c0, d0, e0), ⟨h0, h1⟩, fun (a, b, c, d, e) h => h2 a b c d e h⟩
abbrev un7 {A B C D E F G : Type} {γ : Sort _} (f : A → B → C → D → E → F → G → γ) (p : A × B × C × D × E × F × G) : γ := match p with | (a, b, c, d, e, g, h) => f a b c d e g h
theorem lp7 {A B C D E5 F6 G7 : Type} (U : A → B → C → D → E5 → F6 → G7 → List (Nat × AV)) (V : A → B → C → D → E5 → F6 → G7 → Store) (ok : A → B → C → D → E5 → F6 → G7 → Prop) (μ : A → B → C → D → E5 → F6 → G7 → Nat) (a0 : A) (b0 : B) (c0 : C) (d0 : D) (e0 : E5) (f0 : F6) (g0 : G7) {E Bd : (Y : Type) → (Y → List (Nat × AV)) → (Y → Store) → (Y → Prop) → (Y → Nat) → Y → Prop}
    (h0 : ok a0 b0 c0 d0 e0 f0 g0) (h1 : E (A × B × C × D × E5 × F6 × G7) (un7 U) (un7 V) (un7 ok) (un7 μ) (a0, b0, c0, d0, e0, f0, g0)) (h2 : ∀ a b c d e f g, ok a b c d e f g → Bd (A × B × C × D × E5 × F6 × G7) (un7 U) (un7 V) (un7 ok) (un7 μ) (a, b, c, d, e, f, g)) :
    ∃ (X : Type) (U : X → List (Nat × AV)) (V : X → Store) (ok : X → Prop) (μ : X → Nat) (x0 : X), (ok x0 ∧ E X U V ok μ x0) ∧ ∀ x, ok x → Bd X U V ok μ x :=
  ⟨A × B × C × D × E5 × F6 × G7, un7 U, un7 V, un7 ok, un7 μ, (a0, b0, c0, d0, e0, f0, g0), ⟨h0, h1⟩, fun (a, b, c, d, e, f, g) h => h2 a b c d e f g h⟩
abbrev un8 {T0 T1 T2 T3 T4 T5 T6 T7 : Type} {γ : Sort _} (q : T0 → T1 → T2 → T3 → T4 → T5 → T6 → T7 → γ) (p : T0 × T1 × T2 × T3 × T4 × T5 × T6 × T7) : γ := match p with | (a, b, c, d, e, f, g, h) => q a b c d e f g h
theorem lp8 {T0 T1 T2 T3 T4 T5 T6 T7 : Type} (U : T0 → T1 → T2 → T3 → T4 → T5 → T6 → T7 → List (Nat × AV)) (V : T0 → T1 → T2 → T3 → T4 → T5 → T6 → T7 → Store) (ok : T0 → T1 → T2 → T3 → T4 → T5 → T6 → T7 → Prop) (μ : T0 → T1 → T2 → T3 → T4 → T5 → T6 → T7 → Nat) (a0 : T0) (b0 : T1) (c0 : T2) (d0 : T3) (e0 : T4) (f0 : T5) (g0 : T6) (h0 : T7) {EE Bd : (Y : Type) → (Y → List (Nat × AV)) → (Y → Store) → (Y → Prop) → (Y → Nat) → Y → Prop}
    (q0 : ok a0 b0 c0 d0 e0 f0 g0 h0) (q1 : EE (T0 × T1 × T2 × T3 × T4 × T5 × T6 × T7) (un8 U) (un8 V) (un8 ok) (un8 μ) (a0, b0, c0, d0, e0, f0, g0, h0)) (q2 : ∀ a b c d e f g h, ok a b c d e f g h → Bd (T0 × T1 × T2 × T3 × T4 × T5 × T6 × T7) (un8 U) (un8 V) (un8 ok) (un8 μ) (a, b, c, d, e, f, g, h)) :
    ∃ (X : Type) (U : X → List (Nat × AV)) (V : X → Store) (ok : X → Prop) (μ : X → Nat) (x0 : X), (ok x0 ∧ EE X U V ok μ x0) ∧ ∀ x, ok x → Bd X U V ok μ x :=
  ⟨T0 × T1 × T2 × T3 × T4 × T5 × T6 × T7, un8 U, un8 V, un8 ok, un8 μ, (a0, b0, c0, d0, e0, f0, g0, h0), ⟨q0, q1⟩, fun (a, b, c, d, e, f, g, h) hh => q2 a b c d e f g h hh⟩
abbrev un9 {T0 T1 T2 T3 T4 T5 T6 T7 T8 : Type} {γ : Sort _} (q : T0 → T1 → T2 → T3 → T4 → T5 → T6 → T7 → T8 → γ) (p : T0 × T1 × T2 × T3 × T4 × T5 × T6 × T7 × T8) : γ := match p with | (a, b, c, d, e, f, g, h, i) => q a b c d e f g h i
theorem lp9 {T0 T1 T2 T3 T4 T5 T6 T7 T8 : Type} (U : T0 → T1 → T2 → T3 → T4 → T5 → T6 → T7 → T8 → List (Nat × AV)) (V : T0 → T1 → T2 → T3 → T4 → T5 → T6 → T7 → T8 → Store) (ok : T0 → T1 → T2 → T3 → T4 → T5 → T6 → T7 → T8 → Prop) (μ : T0 → T1 → T2 → T3 → T4 → T5 → T6 → T7 → T8 → Nat) (a0 : T0) (b0 : T1) (c0 : T2) (d0 : T3) (e0 : T4) (f0 : T5) (g0 : T6) (h0 : T7) (i0 : T8) {EE Bd : (Y : Type) → (Y → List (Nat × AV)) → (Y → Store) → (Y → Prop) → (Y → Nat) → Y → Prop}
    (q0 : ok a0 b0 c0 d0 e0 f0 g0 h0 i0) (q1 : EE (T0 × T1 × T2 × T3 × T4 × T5 × T6 × T7 × T8) (un9 U) (un9 V) (un9 ok) (un9 μ) (a0, b0, c0, d0, e0, f0, g0, h0, i0)) (q2 : ∀ a b c d e f g h i, ok a b c d e f g h i → Bd (T0 × T1 × T2 × T3 × T4 × T5 × T6 × T7 × T8) (un9 U) (un9 V) (un9 ok) (un9 μ) (a, b, c, d, e, f, g, h, i)) :
    ∃ (X : Type) (U : X → List (Nat × AV)) (V : X → Store) (ok : X → Prop) (μ : X → Nat) (x0 : X), (ok x0 ∧ EE X U V ok μ x0) ∧ ∀ x, ok x → Bd X U V ok μ x :=
  ⟨T0 × T1 × T2 × T3 × T4 × T5 × T6 × T7 × T8, un9 U, un9 V, un9 ok, un9 μ, (a0, b0, c0, d0, e0, f0, g0, h0, i0), ⟨q0, q1⟩, fun (a, b, c, d, e, f, g, h, i) hh => q2 a b c d e f g h i hh⟩
theorem all4 {T0 T1 T2 T3 : Type} {P : T0 × T1 × T2 × T3 → Prop} (q : ∀ a b c d, P (a, b, c, d)) : ∀ z, P z := fun (a, b, c, d) => q a b c d
theorem all7 {T0 T1 T2 T3 T4 T5 T6 : Type} {P : T0 × T1 × T2 × T3 × T4 × T5 × T6 → Prop} (q : ∀ a b c d e f g, P (a, b, c, d, e, f, g)) : ∀ z, P z := fun (a, b, c, d, e, f, g) => q a b c d e f g
theorem schShr {TY : List TyE} {F : Go.AM.Spec} {ops : List Oper} {t : Sch} {T0 T : List AV} {S0 S : Store} {Q : List AV → Store → Prop} (h : ∀ K : List AV → Store → Prop, K T S → schK TY F ops t T0 S0 K) (hq : Q T S) : schK TY F ops t T0 S0 Q := h Q hq
end Go.Proofs.Ytkbhgnbnnbengaa
end
section
/- The direct product of two tables: plain laws, contract. -/
namespace Go.Proofs.Ytkbhgnbnnbengaa
open Go Go.AM
set_option maxRecDepth 100000
def dirE (t u : List (List Int)) (a b : Nat) : Int := (t.getD (a / u.length) []).getD (b / u.length) 0 * u.length + (u.getD (a % u.length) []).getD (b % u.length) 0
def dirR (t u : List (List Int)) (a c : Nat) : List Int := (List.range c).map (dirE t u a)
def dirP (t u : List (List Int)) (c : Nat) : List (List Int) := (List.range c).map fun a => dirR t u a (t.length * u.length)
def dirL (t u : List (List Int)) : List (List Int) := dirP t u (t.length * u.length)
theorem dirR_succ (t u : List (List Int)) (a c : Nat) : dirR t u a (c + 1) = dirR t u a c ++ [dirE t u a c] := by simp [dirR, List.range_succ]
theorem dirP_succ (t u : List (List Int)) (c : Nat) : dirP t u (c + 1) = dirP t u c ++ [dirR t u c (t.length * u.length)] := by simp [dirP, List.range_succ]
theorem dirR_len (t u : List (List Int)) (a c : Nat) : (dirR t u a c).length = c := by simp [dirR]
theorem dirP_len (t u : List (List Int)) (c : Nat) : (dirP t u c).length = c := by simp [dirP]
theorem dirL_len (t u : List (List Int)) : (dirL t u).length = t.length * u.length := dirP_len t u _
theorem dirL_get {t u : List (List Int)} {a b : Nat} (ha : a < t.length * u.length) (hb : b < t.length * u.length) : ((dirL t u).getD a []).getD b 0 = dirE t u a b := by simp [dirL, dirP, dirR, List.getD, ha, hb]
theorem dirE_at {t u : List (List Int)} {i j k l : Nat} (hj : j < u.length) (hl : l < u.length) : dirE t u (i * u.length + j) (k * u.length + l) = (t.getD i []).getD k 0 * (u.length : Int) + (u.getD j []).getD l 0 := by
  have hm : 0 < u.length := by omega
  unfold dirE
  rw [Nat.mul_comm i, Nat.mul_comm k, Nat.mul_add_div hm, Nat.mul_add_div hm, Nat.mul_add_mod, Nat.mul_add_mod, Nat.div_eq_of_lt hj, Nat.div_eq_of_lt hl, Nat.mod_eq_of_lt hj, Nat.mod_eq_of_lt hl, Nat.add_zero, Nat.add_zero]
set_option maxHeartbeats 1000000 in
theorem direct_fn (t u : List (List Int)) (ht : Semi t) (hu : Semi u) (hn : t.length * u.length ≤ 400) : QF 21 [.ro (.rows .i64 t), .ro (.rows .i64 u)] (.new (.rows .i64 (dirL t u))) := mkQ Try.func21 (by decide +kernel) rfl (Nat.le_of_ble_eq_true rfl) fun _ => by
  have n0 := ht.pos
  have m0 := hu.pos
  have hN : ((t.length * u.length : Nat) : Int) = (t.length : Int) * (u.length : Int) := Int.natCast_mul ..
  have hn400 : t.length ≤ 400 := ht.most
  have hm400 : u.length ≤ 400 := hu.most
  refine Or.inl (cq (mvalid_fn t) (And.intro rfl trivial) ?_)
  refine And.intro (fun h1 => ?_) (fun _ => ?_)
  · have h1 : (!decide (validV t = 0)) = true := h1
    rw [decide_eq_true (valid_zero.2 ht)] at h1; exact absurd h1 (by decide)
  refine Or.inl (cq (mvalid_fn u) (And.intro rfl trivial) ?_)
  refine And.intro (fun h1 => ?_) (fun _ => ?_)
  · have h1 : (!decide (validV u = 0)) = true := h1
    rw [decide_eq_true (valid_zero.2 hu)] at h1; exact absurd h1 (by decide)
  refine And.intro (by omega) ?_
  refine And.intro (fun h1 => ?_) (fun _ => ?_)
  · have h1 : 400 < (t.length : Int) * (u.length : Int) := h1
    omega
  refine And.intro (by omega) ?_
  refine And.intro (by omega) ?_
  refine And.intro (by omega) ?_
  refine Or.inl ?_
  refine Exists.intro [36] <| lp (X := Nat) (fun i => [(39, .int .i64 i), (5, .vec 36)]) (fun i => [(36, .vec 0 (.rows .i64 (dirP t u (i * u.length))) [])]) (fun i => i ≤ t.length) (fun i => t.length - i) 0 (Nat.zero_le _) (by repeat' first | refine And.intro ?_ ?_ | exact True.intro | (rw [Nat.zero_mul]; exact rfl) | (rw [Nat.add_zero]; done) | omega | exact rfl) ?_
  rintro i hi
  refine And.intro (fun h1 => ?_) (fun h1 => ?_)
  · have h1 : (i : Int) < (t.length : Int) := h1
    have hil : i < t.length := by omega
    have hiu : (i + 1) * u.length ≤ t.length * u.length := Nat.mul_le_mul_right _ hil
    rw [Nat.succ_mul] at hiu
    have hfl : (t.getD i []).length = t.length := (ht.row _ (getD_mem (d := []) hil)).1
    refine And.intro (by omega) ?_
    refine Exists.intro [] <| lp (X := Nat) (fun j => [(45, .int .i64 j), (5, .vec 36)]) (fun j => [(36, .vec 0 (.rows .i64 (dirP t u (i * u.length + j))) [])]) (fun j => j ≤ u.length) (fun j => u.length - j) 0 (Nat.zero_le _) (by repeat' first | refine And.intro ?_ ?_ | exact True.intro | (rw [Nat.zero_mul]; exact rfl) | (rw [Nat.add_zero]; done) | omega | exact rfl) ?_
    rintro j hj
    refine And.intro (fun h2 => ?_) (fun h2 => ?_)
    · have h2 : (j : Int) < (u.length : Int) := h2
      have hjl : j < u.length := by omega
      have hsl : (u.getD j []).length = u.length := (hu.row _ (getD_mem (d := []) hjl)).1
      refine And.intro (by omega) ?_
      refine Exists.intro [] <| lp (X := Nat) (fun k => [(51, .int .i64 k), (10, .vec 69)]) (fun k => [(69, .vec 0 (.ints .i64 (dirR t u (i * u.length + j) (k * u.length))) [])]) (fun k => k ≤ t.length) (fun k => t.length - k) 0 (Nat.zero_le _) (by repeat' first | refine And.intro ?_ ?_ | exact True.intro | (rw [Nat.zero_mul]; exact rfl) | (rw [Nat.add_zero]; done) | omega | exact rfl) ?_
      rintro k hk
      refine And.intro (fun h3 => ?_) (fun h3 => ?_)
      · have h3 : (k : Int) < ((t.getD i []).length : Int) := h3
        have hkl : k < t.length := by omega
        have hku : (k + 1) * u.length ≤ t.length * u.length := Nat.mul_le_mul_right _ hkl
        rw [Nat.succ_mul] at hku
        refine And.intro (by omega) ?_
        refine Exists.intro [] <| lp (X := Nat) (fun l => [(57, .int .i64 l), (10, .vec 69)]) (fun l => [(69, .vec 0 (.ints .i64 (dirR t u (i * u.length + j) (k * u.length + l))) [])]) (fun l => l ≤ u.length) (fun l => u.length - l) 0 (Nat.zero_le _) (by repeat' first | refine And.intro ?_ ?_ | exact True.intro | (rw [Nat.zero_mul]; exact rfl) | (rw [Nat.add_zero]; done) | omega | exact rfl) ?_
        rintro l hl
        refine And.intro (fun h4 => ?_) (fun h4 => ?_)
        · have h4 : (l : Int) < ((u.getD j []).length : Int) := h4
          have hll : l < u.length := by omega
          have ha := (ht.row _ (getD_mem (d := []) hil)).2 ((t.getD i []).getD k 0) (getD_mem (d := 0) (by omega))
          have hb := (hu.row _ (getD_mem (d := []) hjl)).2 ((u.getD j []).getD l 0) (getD_mem (d := 0) (by omega))
          have hA1 : 0 ≤ (t.getD i []).getD k 0 * (u.length : Int) := Int.mul_nonneg ha.1 (by omega)
          have hA2 : ((t.getD i []).getD k 0 + 1) * (u.length : Int) ≤ (t.length : Int) * (u.length : Int) := Int.mul_le_mul_of_nonneg_right (by omega) (by omega)
          rw [Int.add_mul] at hA2
          have he : dirR t u (i * u.length + j) (k * u.length + l) ++ [(t.getD i []).getD k 0 * (u.length : Int) + (u.getD j []).getD l 0] = dirR t u (i * u.length + j) (k * u.length + (l + 1)) := by
            rw [← Nat.add_assoc, dirR_succ, dirE_at hjl hll]
          have hlen : (dirR t u (i * u.length + j) (k * u.length + l) ++ [(t.getD i []).getD k 0 * (u.length : Int) + (u.getD j []).getD l 0]).length = k * u.length + (l + 1) := by rw [he, dirR_len]
          refine And.intro (by omega) ?_
          refine And.intro (show -9223372036854775808 ≤ (t.getD i []).getD k 0 * (u.length : Int) ∧ (t.getD i []).getD k 0 * (u.length : Int) ≤ 9223372036854775807 by omega) ?_
          refine And.intro (show -9223372036854775808 ≤ (t.getD i []).getD k 0 * (u.length : Int) + (u.getD j []).getD l 0 ∧ (t.getD i []).getD k 0 * (u.length : Int) + (u.getD j []).getD l 0 ≤ 9223372036854775807 by omega) ?_
          refine And.intro (show (((dirR t u (i * u.length + j) (k * u.length + l) ++ [(t.getD i []).getD k 0 * (u.length : Int) + (u.getD j []).getD l 0]).length : Nat) : Int) ≤ 17592186044416 by omega) ?_
          refine And.intro (by omega) ?_
          exact nx (l + 1) (show l + 1 ≤ u.length by omega) (show u.length - (l + 1) < u.length - l by omega) (by repeat' first | refine And.intro ?_ ?_ | exact True.intro | exact congrArg (RO.ints .i64) he | omega | exact rfl)
        · have h4 : ((u.getD j []).length : Int) ≤ (l : Int) := h4
          have hle : l = u.length := by omega
          have he : dirR t u (i * u.length + j) (k * u.length + l) = dirR t u (i * u.length + j) ((k + 1) * u.length) := by rw [hle, Nat.succ_mul]
          refine And.intro (by omega) ?_
          exact nx (k + 1) (show k + 1 ≤ t.length by omega) (show t.length - (k + 1) < t.length - k by omega) (by repeat' first | refine And.intro ?_ ?_ | exact True.intro | exact congrArg (RO.ints .i64) he | omega | exact rfl)
      · have h3 : ((t.getD i []).length : Int) ≤ (k : Int) := h3
        have hke : k = t.length := by omega
        have he : dirP t u (i * u.length + j) ++ [dirR t u (i * u.length + j) (k * u.length)] = dirP t u (i * u.length + (j + 1)) := by rw [hke, ← Nat.add_assoc, dirP_succ]
        have hlen : (dirP t u (i * u.length + j) ++ [dirR t u (i * u.length + j) (k * u.length)]).length = i * u.length + (j + 1) := by rw [he, dirP_len]
        refine And.intro (show (((dirP t u (i * u.length + j) ++ [dirR t u (i * u.length + j) (k * u.length)]).length : Nat) : Int) ≤ 2199023255552 by omega) ?_
        refine And.intro (by omega) ?_
        exact nx (j + 1) (show j + 1 ≤ u.length by omega) (show u.length - (j + 1) < u.length - j by omega) (by repeat' first | refine And.intro ?_ ?_ | exact True.intro | exact congrArg (RO.rows .i64) he | omega | exact rfl)
    · have h2 : (u.length : Int) ≤ (j : Int) := h2
      have hje : j = u.length := by omega
      have he : dirP t u (i * u.length + j) = dirP t u ((i + 1) * u.length) := by rw [hje, Nat.succ_mul]
      refine And.intro (by omega) ?_
      exact nx (i + 1) (show i + 1 ≤ t.length by omega) (show t.length - (i + 1) < t.length - i by omega) (by repeat' first | refine And.intro ?_ ?_ | exact True.intro | exact congrArg (RO.rows .i64) he | omega | exact rfl)
  · have h1 : (t.length : Int) ≤ (i : Int) := h1
    have hie : i = t.length := by omega
    refine And.intro (And.intro (by omega) ?_) trivial
    subst hie; rfl
end Go.Proofs.Ytkbhgnbnnbengaa
end
section
section
/- Plain: congruences of a table. -/
namespace Go.Proofs.Ytkbhgnbnnbengaa
def CgA (t : List (List Int)) (p : List Int) (side : Int) (x y s : Nat) : Prop :=
  (side ≠ 2 → p.getD (en t s x) 0 = p.getD (en t s y) 0) ∧ (side ≠ 1 → p.getD (en t x s) 0 = p.getD (en t y s) 0)
def Cg (t : List (List Int)) (p : List Int) (side : Int) : Prop := ∀ x y s, x < t.length → y < t.length → s < t.length → p.getD x 0 = p.getD y 0 → CgA t p side x y s
structure IsCg (t : List (List Int)) (p : List Int) (side : Int) : Prop where
  semi : Semi t
  len : p.length = t.length
  val : validP p
  sd : 0 ≤ side ∧ side ≤ 2
  cg : Cg t p side
noncomputable def cgB (t : List (List Int)) (p : List Int) (side : Int) : Bool := @decide (IsCg t p side) (Classical.propDecidable _)
theorem cgB_true {t : List (List Int)} {p : List Int} {side : Int} : cgB t p side = true ↔ IsCg t p side := by unfold cgB; exact @decide_eq_true_iff _ (Classical.propDecidable _)
theorem cgB_false {t : List (List Int)} {p : List Int} {side : Int} : cgB t p side = false ↔ ¬ IsCg t p side := by unfold cgB; exact @decide_eq_false_iff_not _ (Classical.propDecidable _)
theorem CgA.trans {t : List (List Int)} {p : List Int} {side : Int} {x y z s : Nat} (h : CgA t p side x y s) (h' : CgA t p side z y s) : CgA t p side x z s :=
  ⟨fun hs => (h.1 hs).trans (h'.1 hs).symm, fun hs => (h.2 hs).trans (h'.2 hs).symm⟩
end Go.Proofs.Ytkbhgnbnnbengaa
end
section
/- Package congr: which partitions are congruences: contract. -/
namespace Go.Proofs.Ytkbhgnbnnbengaa
open Go Go.AM
set_option maxRecDepth 100000
def FstOk (p : List Int) (i : Nat) (f : List Int) : Prop := f.length = (firsts (p.take i)).length ∧ ∀ c, c < f.length → 0 ≤ f.getD c 0 ∧ (f.getD c 0).toNat < i ∧ p.getD (f.getD c 0).toNat 0 = c
theorem valid_upto {p : List Int} {i : Nat} (hi : i < p.length) (hok : ∀ j, j < p.length → stepOk p j) : (firsts (p.take (i + 1))).length = if p.getD i 0 = (firsts (p.take i)).length then (firsts (p.take i)).length + 1 else (firsts (p.take i)).length :=
  firsts_next hi (fun j hj => hok j (by omega)) (hok i hi)
theorem firsts_mono {p : List Int} (hok : ∀ j, j < p.length → stepOk p j) : ∀ {i x : Nat}, i ≤ p.length → x < i → p.getD x 0 < ((firsts (p.take i)).length : Int)
  | 0, x, _, h => absurd h (Nat.not_lt_zero _)
  | i + 1, x, hi, h => by
    have h1 := valid_upto hi hok
    have h2 := hok i hi
    by_cases e : x = i
    · subst e
      rw [h1]
      have := h2.2
      split <;> omega
    · have := firsts_mono hok (by omega : i ≤ p.length) (by omega : x < i)
      rw [h1]
      split <;> omega
theorem FstOk.old {p : List Int} {i x : Nat} {f : List Int} (hok : ∀ j, j < p.length → stepOk p j) (hi : i ≤ p.length) (hf : FstOk p i f) (hx : x < i) : (p.getD x 0).toNat < f.length := by
  have := firsts_mono hok hi hx
  have := (hok x (by omega)).1
  rw [hf.1]; omega
theorem FstOk.new {p : List Int} {i : Nat} {f : List Int} (hok : ∀ j, j < p.length → stepOk p j) (hi : i < p.length) (hf : FstOk p i f) (h : p.getD i 0 = (f.length : Int)) : FstOk p (i + 1) (f ++ [(i : Int)]) := by
  refine ⟨by rw [valid_upto hi hok, if_pos (by rw [h, hf.1]), ← hf.1]; simp, fun c hc => ?_⟩
  by_cases e : c < f.length
  · have h1 := hf.2 c e
    have h2 : (f ++ [(i : Int)]).getD c 0 = f.getD c 0 := by simp [List.getD, List.getElem?_append_left e]
    rw [h2]; exact ⟨h1.1, by omega, h1.2.2⟩
  · have h1 : c = f.length := by simp at hc; omega
    subst h1
    have h2 : (f ++ [(i : Int)]).getD f.length 0 = i := by simp [List.getD]
    rw [h2]; exact ⟨by omega, by omega, by rw [Int.toNat_natCast, h]⟩
theorem FstOk.same {p : List Int} {i : Nat} {f : List Int} (hok : ∀ j, j < p.length → stepOk p j) (hi : i < p.length) (hf : FstOk p i f) (h : ¬ p.getD i 0 = (f.length : Int)) : FstOk p (i + 1) f := by
  refine ⟨by rw [valid_upto hi hok, if_neg (by rw [← hf.1]; exact h), ← hf.1], fun c hc => ?_⟩
  have h1 := hf.2 c hc
  exact ⟨h1.1, by omega, h1.2.2⟩
theorem getD_appL {l m : List Int} {k : Nat} (h : k < l.length) : (l ++ m).getD k 0 = l.getD k 0 := by simp [List.getD, List.getElem?_append_left h]
end Go.Proofs.Ytkbhgnbnnbengaa
end
end
section
/- Plain: the quotient of a table by a congruence. -/
namespace Go.Proofs.Ytkbhgnbnnbengaa
open Go Go.AM
def hdN (p : List Int) (c : Nat) : Nat := (((classes (classN p) p).getD c []).getD 0 0).toNat
def quoR (t : List (List Int)) (p : List Int) (c : Nat) : List Int := (List.range (classN p)).map fun d => p.getD (en t (hdN p c) (hdN p d)) 0
def quoL (t : List (List Int)) (p : List Int) : List (List Int) := (List.range (classN p)).map fun c => quoR t p c
section
variable {t : List (List Int)} {p : List Int}
theorem cls_pos (hp : canon p = p) {c : Nat} (hc : c < classN p) : 0 < ((classes (classN p) p).getD c []).length := by
  have hm := (valid_range hp (c : Int)).1 ⟨by omega, by omega⟩
  obtain ⟨i, hi, he⟩ := mem_getD 0 hm
  have := (mem_classes (p := p) hc (x := (i : Int))).2 ⟨by omega, by omega, by rw [Int.toNat_natCast]; exact he⟩
  exact List.length_pos_of_mem this
theorem hd_at (hp : canon p = p) {c : Nat} (hc : c < classN p) : hdN p c < p.length ∧ p.getD (hdN p c) 0 = (c : Int) ∧ ((classes (classN p) p).getD c []).getD 0 0 = (hdN p c : Int) := by
  have hm := (mem_classes hc).1 (getD_mem (d := 0) (cls_pos hp hc))
  unfold hdN
  exact ⟨by omega, hm.2.2, by omega⟩
theorem cls_lt (hp : canon p = p) {x : Nat} (hx : x < p.length) : 0 ≤ p.getD x 0 ∧ (p.getD x 0).toNat < classN p ∧ p.getD x 0 = ((p.getD x 0).toNat : Int) := by
  have := (valid_range hp (p.getD x 0)).2 (getD_mem hx)
  omega
theorem quoR_len {c : Nat} : (quoR t p c).length = classN p := by simp [quoR]
theorem quoR_get {c d : Nat} (hd : d < classN p) : (quoR t p c).getD d 0 = p.getD (en t (hdN p c) (hdN p d)) 0 := by simp [quoR, List.getD, hd]
theorem quoL_len : (quoL t p).length = classN p := by simp [quoL]
theorem quoL_get {c : Nat} (hc : c < classN p) : (quoL t p).getD c [] = quoR t p c := by simp [quoL, List.getD, hc]
theorem cg_both (hs : Sh t) (hl : p.length = t.length) (hg : Cg t p 0) {x y x' y' : Nat} (hx : x < t.length) (hy : y < t.length) (hx' : x' < t.length) (hy' : y' < t.length) (h1 : p.getD x 0 = p.getD x' 0) (h2 : p.getD y 0 = p.getD y' 0) :
    p.getD (en t x y) 0 = p.getD (en t x' y') 0 :=
  ((hg x x' y hx hx' hy h1).2 (by decide)).trans ((hg y y' x' hy hy' hx' h2).1 (by decide))
theorem quo_hom (hs : Sh t) (hl : p.length = t.length) (hp : canon p = p) (hg : Cg t p 0) {x y : Nat} (hx : x < t.length) (hy : y < t.length) :
    ((quoL t p).getD (p.getD x 0).toNat []).getD (p.getD y 0).toNat 0 = p.getD (en t x y) 0 := by
  have h1 := cls_lt hp (x := x) (by omega)
  have h2 := cls_lt hp (x := y) (by omega)
  have k1 := hd_at hp h1.2.1
  have k2 := hd_at hp h2.2.1
  rw [quoL_get h1.2.1, quoR_get h2.2.1]
  exact (cg_both hs hl hg hx hy (by omega) (by omega) (by omega) (by omega)).symm
theorem quo_en_hom (hs : Sh t) (hl : p.length = t.length) (hp : canon p = p) (hg : Cg t p 0) {x y : Nat} (hx : x < t.length) (hy : y < t.length) :
    en (quoL t p) (p.getD x 0).toNat (p.getD y 0).toNat = (p.getD (en t x y) 0).toNat := by
  unfold en; rw [quo_hom hs hl hp hg hx hy]; rfl
theorem cls_some (hs : Sh t) (hl : p.length = t.length) : 0 < classN p := by
  have := hs.pos
  cases p with
  | nil => simp at hl; omega
  | cons a l =>
    have hm : a ∈ firsts (a :: l) := mem_firsts.2 (by simp)
    exact List.length_pos_of_mem hm
theorem quo_sh (hs : Sh t) (hl : p.length = t.length) (hp : canon p = p) : Sh (quoL t p) := by
  have hle : classN p ≤ p.length := firsts_le p
  have hm := hs.most
  refine ⟨by rw [quoL_len]; exact cls_some hs hl, by rw [quoL_len]; omega, fun r hr => ?_⟩
  obtain ⟨c, hc, rfl⟩ := mem_getD [] hr
  rw [quoL_len] at hc
  rw [quoL_get hc]
  refine ⟨by rw [quoR_len, quoL_len], fun x hx => ?_⟩
  obtain ⟨d, hd, rfl⟩ := mem_getD 0 hx
  rw [quoR_len] at hd
  rw [quoR_get hd, quoL_len]
  have k1 := hd_at hp hc
  have k2 := hd_at hp hd
  have k3 := cls_lt hp (x := en t (hdN p c) (hdN p d)) (by rw [hl]; exact (hs.ent (by omega) (by omega)).2)
  omega
theorem cls_rep (hl : p.length = t.length) (hp : canon p = p) {c : Nat} (hc : c < classN p) : ∃ x, x < t.length ∧ (p.getD x 0).toNat = c := by
  have k := hd_at hp hc
  exact ⟨hdN p c, by omega, by omega⟩
theorem quo_semi (hs : Semi t) (hl : p.length = t.length) (hp : canon p = p) (hg : Cg t p 0) : Semi (quoL t p) := by
  refine ⟨quo_sh hs.toSh hl hp, fun b hb a c ha hc => ?_⟩
  rw [quoL_len] at hb ha hc
  obtain ⟨x, hx, rfl⟩ := cls_rep hl hp ha
  obtain ⟨y, hy, rfl⟩ := cls_rep hl hp hb
  obtain ⟨z, hz, rfl⟩ := cls_rep hl hp hc
  have hS := hs.toSh
  rw [quo_en_hom hS hl hp hg hx hy, quo_en_hom hS hl hp hg hy hz, quo_en_hom hS hl hp hg (hS.ent hx hy).2 hz, quo_en_hom hS hl hp hg hx (hS.ent hy hz).2, assoc3 hs.assoc hx hy hz]
/-! ### How the rows are filled -/
def QuoIn (t : List (List Int)) (p : List Int) (i : Nat) (l : List (List Int)) : Prop :=
  l.length = classN p ∧ ∀ c, c < classN p → ((∃ x, x < i ∧ p.getD x 0 = (c : Int)) → l.getD c [] = quoR t p c) ∧ ((∀ x, x < i → p.getD x 0 ≠ (c : Int)) → l.getD c [] = [])
theorem QuoIn.start : QuoIn t p 0 (List.replicate (classN p) []) := ⟨by simp, fun c hc => ⟨fun ⟨x, hx, _⟩ => absurd hx (Nat.not_lt_zero _), fun _ => by simp [List.getD, hc]⟩⟩
theorem QuoIn.old (hp : canon p = p) {i : Nat} {l : List (List Int)} (h : QuoIn t p i l) (hi : i < p.length) (hn : l.getD (p.getD i 0).toNat [] ≠ []) : QuoIn t p (i + 1) l := by
  have hc := cls_lt hp hi
  have hsome : ∃ x, x < i ∧ p.getD x 0 = p.getD i 0 := Classical.byContradiction fun hne => hn ((h.2 _ hc.2.1).2 fun x hx e => hne ⟨x, hx, by rw [e]; exact hc.2.2.symm⟩)
  refine ⟨h.1, fun c hcc => ⟨fun ⟨x, hx, he⟩ => (h.2 c hcc).1 ?_, fun hno => (h.2 c hcc).2 fun x hx => hno x (by omega)⟩⟩
  by_cases hxi : x < i
  · exact ⟨x, hxi, he⟩
  · have : x = i := by omega
    subst this
    obtain ⟨y, hy, hye⟩ := hsome
    exact ⟨y, hy, hye.trans he⟩
theorem QuoIn.new (hp : canon p = p) {i : Nat} {l : List (List Int)} (h : QuoIn t p i l) (hi : i < p.length) {r : List Int} (hr : r = quoR t p (p.getD i 0).toNat) : QuoIn t p (i + 1) (l.set (p.getD i 0).toNat r) := by
  have hc := cls_lt hp hi
  have hlt : (p.getD i 0).toNat < l.length := by rw [h.1]; exact hc.2.1
  refine ⟨by rw [List.length_set]; exact h.1, fun c hcc => ?_⟩
  rw [getD_set _ _ _ _ _ hlt]
  by_cases e : c = (p.getD i 0).toNat
  · subst e
    rw [if_pos rfl]
    exact ⟨fun _ => hr, fun hno => absurd hc.2.2 (hno i (by omega))⟩
  · rw [if_neg e]
    refine ⟨fun ⟨x, hx, he⟩ => (h.2 c hcc).1 ⟨x, ?_, he⟩, fun hno => (h.2 c hcc).2 fun x hx => hno x (by omega)⟩
    rcases Nat.lt_or_ge x i with hxi | hxi
    · exact hxi
    · have : x = i := by omega
      subst this
      omega
theorem QuoIn.done (hp : canon p = p) {l : List (List Int)} {i : Nat} (h : QuoIn t p i l) (hi : p.length ≤ i) : l = quoL t p := by
  refine ext_getD [] (by rw [h.1, quoL_len]) fun c hc => ?_
  rw [h.1] at hc
  rw [quoL_get hc]
  have k := hd_at hp hc
  exact (h.2 c hc).1 ⟨hdN p c, by omega, k.2.1⟩
def RowIn (t : List (List Int)) (p : List Int) (i j : Nat) (r : List Int) : Prop :=
  r.length = classN p ∧ ∀ d, d < classN p → (∃ y, y < j ∧ p.getD y 0 = (d : Int)) → r.getD d 0 = p.getD (en t i (hdN p d)) 0
theorem RowIn.start {i : Nat} : RowIn t p i 0 (List.replicate (classN p) 0) := ⟨by simp, fun d _ ⟨y, hy, _⟩ => absurd hy (Nat.not_lt_zero _)⟩
theorem RowIn.next (hs : Sh t) (hl : p.length = t.length) (hp : canon p = p) (hg : Cg t p 0) {i j : Nat} {r : List Int} (h : RowIn t p i j r) (hi : i < t.length) (hj : j < p.length) : RowIn t p i (j + 1) (r.set (p.getD j 0).toNat (p.getD (en t i j) 0)) := by
  have hc := cls_lt hp hj
  have hlt : (p.getD j 0).toNat < r.length := by rw [h.1]; exact hc.2.1
  refine ⟨by rw [List.length_set]; exact h.1, fun d hd ⟨y, hy, he⟩ => ?_⟩
  rw [getD_set _ _ _ _ _ hlt]
  by_cases e : d = (p.getD j 0).toNat
  · subst e
    rw [if_pos rfl]
    have k := hd_at hp hd
    exact cg_both hs hl hg hi (by omega) hi (by omega) rfl (by rw [k.2.1]; exact hc.2.2)
  · rw [if_neg e]
    refine h.2 d hd ⟨y, ?_, he⟩
    rcases Nat.lt_or_ge y j with hyj | hyj
    · exact hyj
    · have : y = j := by omega
      subst this
      omega
theorem RowIn.done (hs : Sh t) (hl : p.length = t.length) (hp : canon p = p) (hg : Cg t p 0) {i j : Nat} {r : List Int} (h : RowIn t p i j r) (hi : i < t.length) (hj : p.length ≤ j) : r = quoR t p (p.getD i 0).toNat := by
  have hc := cls_lt hp (x := i) (by omega)
  refine ext_getD 0 (by rw [h.1, quoR_len]) fun d hd => ?_
  rw [h.1] at hd
  have k := hd_at hp hd
  have k2 := hd_at hp hc.2.1
  rw [h.2 d hd ⟨hdN p d, by omega, k.2.1⟩, quoR_get hd]
  exact cg_both hs hl hg hi (by omega) (by omega) (by omega) (by rw [k2.2.1]; exact hc.2.2) rfl
end
end Go.Proofs.Ytkbhgnbnnbengaa
end
