import Derived.Test.YtpanlghofeebhaaEqvLaw
import Derived.Test.YtpanlghofeebhaaIdealLaw
import Derived.Test.YtpanlghofeebhaaAmRet
import Derived.Test.YtpanlghofeebhaaGroup
section
/- Orders by a comparison; sorted lists; the lexicographic order and the order by size. Plain. -/
namespace Go.Proofs.Ytpanlghofeebhaa
open Go Go.AM
structure TotC {α : Type} (c : α → α → Int) : Prop where
  swap : ∀ a b, c b a = - c a b
  eq : ∀ a b, c a b = 0 → a = b
  trans : ∀ a b d, c a b < 0 → c b d < 0 → c a d < 0
theorem TotC.self {α : Type} {c : α → α → Int} (h : TotC c) (a : α) : c a a = 0 := by have := h.swap a a; omega
def cmpI (a b : Int) : Int := if a < b then -1 else if b < a then 1 else 0
theorem cmpI_tot : TotC cmpI where
  swap a b := by unfold cmpI; split <;> split <;> (try split) <;> omega
  eq a b := by unfold cmpI; split <;> (try split) <;> omega
  trans a b d := by unfold cmpI; intro h1 h2; split at h1 <;> (try split at h1) <;> split at h2 <;> (try split at h2) <;> first | omega | (rw [if_pos (by omega)]; omega)
def cmpL : List Int → List Int → Int
  | [], [] => 0 | [], _ :: _ => -1 | _ :: _, [] => 1 | a :: l, b :: m => if cmpI a b ≠ 0 then cmpI a b else cmpL l m
theorem cmpL_swap : ∀ a b : List Int, cmpL b a = - cmpL a b
  | [], [] => rfl
  | [], _ :: _ => rfl
  | _ :: _, [] => rfl
  | a :: l, b :: m => by
    have e := cmpI_tot.swap a b
    have ih := cmpL_swap l m
    simp only [cmpL]
    by_cases h : cmpI a b = 0
    · rw [if_neg (by omega), if_neg (by omega), ih]
    · rw [if_pos (by omega), if_pos h, e]
theorem cmpL_eq : ∀ a b : List Int, cmpL a b = 0 → a = b
  | [], [], _ => rfl
  | [], _ :: _, h => by simp [cmpL] at h
  | _ :: _, [], h => by simp [cmpL] at h
  | a :: l, b :: m, h => by
    simp only [cmpL] at h
    by_cases h0 : cmpI a b = 0
    · rw [if_neg (by omega)] at h
      rw [cmpI_tot.eq a b h0, cmpL_eq l m h]
    · rw [if_pos h0] at h; exact absurd h h0
theorem cmpL_trans : ∀ a b d : List Int, cmpL a b < 0 → cmpL b d < 0 → cmpL a d < 0
  | [], [], _, h, _ => by simp [cmpL] at h
  | [], _ :: _, [], _, h => by simp [cmpL] at h
  | [], _ :: _, _ :: _, _, _ => by simp [cmpL]
  | _ :: _, [], _, h, _ => by simp [cmpL] at h
  | _ :: _, _ :: _, [], _, h => by simp [cmpL] at h
  | a :: l, b :: m, d :: n, h1, h2 => by
    simp only [cmpL] at h1 h2 ⊢
    have ih := cmpL_trans l m n
    by_cases e1 : cmpI a b = 0
    · rw [if_neg (by omega)] at h1
      obtain rfl := cmpI_tot.eq a b e1
      by_cases e2 : cmpI a d = 0
      · rw [if_neg (by omega)] at h2 ⊢; exact ih h1 h2
      · rw [if_pos e2] at h2 ⊢; exact h2
    · rw [if_pos e1] at h1
      by_cases e2 : cmpI b d = 0
      · obtain rfl := cmpI_tot.eq b d e2
        rw [if_pos e1]; exact h1
      · rw [if_pos e2] at h2
        have := cmpI_tot.trans a b d h1 h2
        rw [if_pos (by omega)]; exact this
theorem cmpL_tot : TotC cmpL := ⟨cmpL_swap, cmpL_eq, cmpL_trans⟩
def Srt {α : Type} (c : α → α → Int) (l : List α) : Prop := l.Pairwise fun a b => c a b < 0
def srt {α : Type} (c : α → α → Int) (l : List α) : List α := l.mergeSort fun a b => decide (c a b ≤ 0)
section
variable {α : Type} {c : α → α → Int}
theorem Srt.nodup (h : TotC c) {l : List α} (hs : Srt c l) : l.Nodup := hs.imp fun {a b} hab e => by subst e; have := h.self a; omega
theorem le_trans' (h : TotC c) {a b d : α} (h1 : c a b ≤ 0) (h2 : c b d ≤ 0) : c a d ≤ 0 := by
  by_cases e1 : c a b = 0
  · obtain rfl := h.eq _ _ e1; exact h2
  · by_cases e2 : c b d = 0
    · obtain rfl := h.eq _ _ e2; exact h1
    · have := h.trans a b d (by omega) (by omega); omega
theorem srt_perm (l : List α) : (srt c l).Perm l := List.mergeSort_perm _ _
theorem srt_mem {l : List α} {x : α} : x ∈ srt c l ↔ x ∈ l := (srt_perm l).mem_iff
theorem srt_len (l : List α) : (srt c l).length = l.length := (srt_perm l).length_eq
theorem srt_le (h : TotC c) (l : List α) : (srt c l).Pairwise fun a b => c a b ≤ 0 := by
  have := List.pairwise_mergeSort (le := fun a b => decide (c a b ≤ 0)) (fun a b d h1 h2 => decide_eq_true (le_trans' h (of_decide_eq_true h1) (of_decide_eq_true h2)))
    (fun a b => by
      have := h.swap a b
      by_cases h0 : c a b ≤ 0
      · simp [h0]
      · have : c b a ≤ 0 := by omega
        simp [this]) l
  exact this.imp fun {a b} hab => of_decide_eq_true hab
theorem srt_srt (h : TotC c) {l : List α} (hn : l.Nodup) : Srt c (srt c l) := by
  have h1 := srt_le h l
  have h2 : (srt c l).Nodup := (srt_perm l).nodup_iff.2 hn
  have := h1.and h2
  refine this.imp fun {a b} hab => ?_
  have : c a b ≠ 0 := fun e => hab.2 (h.eq _ _ e)
  omega
theorem perm_sorted (h : TotC c) : ∀ {l m : List α}, l.Pairwise (fun a b => c a b ≤ 0) → m.Pairwise (fun a b => c a b ≤ 0) → l.Perm m → l = m
  | [], m, _, _, hp => by rw [List.nil_perm.1 hp]
  | a :: l, [], _, _, hp => by have := hp.length_eq; simp at this
  | a :: l, b :: m, h1, h2, hp => by
    have h1' := List.pairwise_cons.1 h1
    have h2' := List.pairwise_cons.1 h2
    have e : a = b := by
      have ha : a ∈ b :: m := hp.mem_iff.1 (by simp)
      have hb : b ∈ a :: l := hp.mem_iff.2 (by simp)
      rcases List.mem_cons.1 ha with e | ha
      · exact e
      · rcases List.mem_cons.1 hb with e | hb
        · exact e.symm
        · have g1 := h2'.1 a ha
          have g2 := h1'.1 b hb
          have := h.swap a b
          exact h.eq _ _ (by omega)
    subst e
    rw [perm_sorted h h1'.2 h2'.2 hp.cons_inv]
theorem srt_uniq (h : TotC c) {l m : List α} (hm : m.Pairwise fun a b => c a b ≤ 0) (hp : m.Perm l) : srt c l = m :=
  perm_sorted h (srt_le h l) hm ((srt_perm l).trans hp.symm)
theorem sorted_uniq (h : TotC c) {l m : List α} (hl : Srt c l) (hm : Srt c m) (he : ∀ x, x ∈ l ↔ x ∈ m) : l = m :=
  perm_sorted h (hl.imp fun h => by omega) (hm.imp fun h => by omega) ((List.perm_ext_iff_of_nodup (hl.nodup h) (hm.nodup h)).2 he)
end
theorem cmpL_at : ∀ {a b : List Int} {i : Nat}, (∀ j, j < i → a.getD j 0 = b.getD j 0) → i ≤ a.length → i ≤ b.length → cmpL a b = cmpL (a.drop i) (b.drop i)
  | a, b, 0, _, _, _ => by simp
  | [], _, i + 1, _, h, _ => by simp at h
  | _ :: _, [], i + 1, _, _, h => by simp at h
  | x :: a, y :: b, i + 1, h, h1, h2 => by
    have e : x = y := by simpa using h 0 (by omega)
    subst e
    rw [List.drop_succ_cons, List.drop_succ_cons, ← cmpL_at (a := a) (b := b) (i := i) (fun j hj => by simpa using h (j + 1) (by omega)) (by simpa using h1) (by simpa using h2)]
    simp [cmpL, cmpI_tot.self]
theorem cmpL_here {a b : List Int} {i : Nat} (h : ∀ j, j < i → a.getD j 0 = b.getD j 0) (h1 : i < a.length) (h2 : i < b.length) (hne : a.getD i 0 ≠ b.getD i 0) : cmpL a b = cmpI (a.getD i 0) (b.getD i 0) := by
  rw [cmpL_at h (by omega) (by omega), List.drop_eq_getElem_cons h1, List.drop_eq_getElem_cons h2]
  rw [getD_eq h1, getD_eq h2] at *
  simp only [cmpL]
  rw [if_pos fun e => hne (cmpI_tot.eq _ _ e)]
theorem cmpL_end {a b : List Int} {i : Nat} (h : ∀ j, j < i → a.getD j 0 = b.getD j 0) (h1 : i ≤ a.length) (h2 : i ≤ b.length) (he : i = a.length ∨ i = b.length) : cmpL a b = cmpI a.length b.length := by
  rw [cmpL_at h h1 h2]
  unfold cmpI
  rcases he with he | he
  · rw [List.drop_of_length_le (by omega)]
    cases hb : b.drop i with
    | nil =>
      have := congrArg List.length hb
      simp at this
      rw [if_neg (by omega), if_neg (by omega)]; rfl
    | cons =>
      have := congrArg List.length hb
      simp at this
      rw [if_pos (by omega)]; rfl
  · rw [show b.drop i = [] from List.drop_of_length_le (by omega)]
    cases ha : a.drop i with
    | nil =>
      have := congrArg List.length ha
      simp at this
      rw [if_neg (by omega), if_neg (by omega)]; rfl
    | cons =>
      have := congrArg List.length ha
      simp at this
      rw [if_neg (by omega), if_pos (by omega)]; rfl
noncomputable def insC {α : Type} (c : α → α → Int) (l : List α) (x : α) : List α := open Classical in if x ∈ l then l else srt c (x :: l)
section
variable {α : Type} {c : α → α → Int}
theorem insC_mem {l : List α} {x y : α} : y ∈ insC c l x ↔ y = x ∨ y ∈ l := by
  unfold insC
  split
  · rename_i h; exact ⟨.inr, fun h' => h'.elim (fun e => by rw [e]; exact h) id⟩
  · rw [srt_mem, List.mem_cons]
theorem insC_srt (h : TotC c) {l : List α} {x : α} (hl : Srt c l) : Srt c (insC c l x) := by
  unfold insC
  split
  · exact hl
  · rename_i hx; exact srt_srt h (List.nodup_cons.2 ⟨hx, hl.nodup h⟩)
theorem insC_len (l : List α) (x : α) : (insC c l x).length ≤ l.length + 1 := by
  unfold insC
  split
  · omega
  · rw [srt_len]; simp
theorem insC_at (h : TotC c) {l : List α} {x d : α} (hl : Srt c l) {i : Nat} (hi : i ≤ l.length) (h1 : ∀ j, i ≤ j → j < l.length → c x (l.getD j d) < 0) (h2 : 0 < i → c (l.getD (i - 1) d) x < 0) : l.take i ++ [x] ++ l.drop i = insC c l x := by
  have low : ∀ j, j < i → c (l.getD j d) x < 0 := fun j hj => by
    by_cases e : j = i - 1
    · rw [e]; exact h2 (by omega)
    · have hp := List.pairwise_iff_getElem.1 hl j (i - 1) (by omega) (by omega) (by omega)
      rw [getD_eq (by omega)]
      have := h2 (by omega)
      rw [getD_eq (by omega)] at this
      exact h.trans _ _ _ hp this
  refine sorted_uniq h ?_ (insC_srt h hl) fun y => ?_
  · unfold Srt
    rw [List.append_assoc, List.pairwise_append]
    refine ⟨hl.sublist (List.take_sublist _ _), ?_, fun a ha b hb => ?_⟩
    · rw [List.singleton_append, List.pairwise_cons]
      refine ⟨fun b hb => ?_, hl.sublist (List.drop_sublist _ _)⟩
      obtain ⟨j, hj, e⟩ := mem_getD d hb
      rw [List.length_drop] at hj
      have := h1 (i + j) (by omega) (by omega)
      rw [← e]
      simpa [List.getD] using this
    · obtain ⟨j, hj, e⟩ := mem_getD d ha
      rw [List.length_take] at hj
      have hx := low j (by omega)
      have ea : a = l.getD j d := by rw [← e]; simp [List.getD, show j < i by omega]
      rw [ea]
      rw [List.singleton_append, List.mem_cons] at hb
      rcases hb with rfl | hb
      · exact hx
      · obtain ⟨k, hk, e'⟩ := mem_getD d hb
        rw [List.length_drop] at hk
        have := h1 (i + k) (by omega) (by omega)
        rw [← e']
        have e2 : (l.drop i).getD k d = l.getD (i + k) d := by simp [List.getD]
        rw [e2]
        exact h.trans _ _ _ hx this
  · rw [insC_mem, List.append_assoc, List.mem_append, List.singleton_append, List.mem_cons]
    have := List.take_append_drop i l
    constructor
    · rintro (hy | rfl | hy)
      · exact .inr (List.mem_of_mem_take hy)
      · exact .inl rfl
      · exact .inr (List.mem_of_mem_drop hy)
    · rintro (rfl | hy)
      · exact .inr (.inl rfl)
      · rw [← this, List.mem_append] at hy
        exact hy.elim .inl fun hy => .inr (.inr hy)
theorem insC_in {l : List α} {x : α} (h : x ∈ l) : insC c l x = l := by unfold insC; rw [if_pos h]
end
end Go.Proofs.Ytpanlghofeebhaa
end
section
/- Plain: groups: the identity, inverses, powers and orders of elements. -/
namespace Go.Proofs.Ytpanlghofeebhaa
section
variable {t : List (List Int)}
def pwN (t : List (List Int)) (x : Nat) : Nat → Nat
  | 0 => x | k + 1 => en t (pwN t x k) x
theorem pwN_lt (h : Semi t) {x : Nat} (hx : x < t.length) : ∀ k, pwN t x k < t.length
  | 0 => hx | k + 1 => (h.toSh.ent (pwN_lt h hx k) hx).2
theorem pwN_add (h : Semi t) {x : Nat} (hx : x < t.length) (i : Nat) : ∀ j, en t (pwN t x i) (pwN t x j) = pwN t x (i + j + 1)
  | 0 => rfl
  | j + 1 => by
    show en t (pwN t x i) (en t (pwN t x j) x) = en t (pwN t x (i + j + 1)) x
    rw [← assoc3 h.assoc (pwN_lt h hx i) (pwN_lt h hx j) hx, pwN_add h hx i j]
end
end Go.Proofs.Ytpanlghofeebhaa
end
section
/- Plain: subgroups, what elements generate, conjugates, cosets. -/
namespace Go.Proofs.Ytpanlghofeebhaa
section
/-! ### Subgroups -/
end
/-! ### Generating, step by step -/
theorem nodup_len {n : Nat} {l : List Int} (hn : l.Nodup) (h : ∀ x ∈ l, 0 ≤ x ∧ x < (n : Int)) : l.length ≤ n := by
  have := hn.length_le_of_subset (l₂ := disI n) fun x hx => mem_disI.2 (h x hx)
  rwa [disI_len] at this
/-! ### What was collected -/
/-! ### Closing under products, pass by pass -/
/-! ### The reference's lists -/
end Go.Proofs.Ytpanlghofeebhaa
end
section
/- More idioms of stepping: loops with five to nine things that change. -/
namespace Go.Proofs.Ytpanlghofeebhaa
open Go Go.AM
abbrev un5 {A B C D E : Type} {γ : Sort _} (f : A → B → C → D → E → γ) (p : A × B × C × D × E) : γ := match p with | (a, b, c, d, e) => f a b c d e
abbrev un6 {A B C D E F : Type} {γ : Sort _} (f : A → B → C → D → E → F → γ) (p : A × B × C × D × E × F) : γ := match p with | (a, b, c, d, e, g) => f a b c d e g
theorem lp5 {A B C D E5 : Type} (U : A → B → C → D → E5 → List (Nat × AV)) (V : A → B → C → D → E5 → Store) (ok : A → B → C → D → E5 → Prop) (μ : A → B → C → D → E5 → Nat) (a0 : A) (b0 : B) (c0 : C) (d0 : D) (e0 : E5) {E Bd : (Y : Type) → (Y → List (Nat × AV)) → (Y → Store) → (Y → Prop) → (Y → Nat) → Y → Prop}
    (h0 : ok a0 b0 c0 d0 e0) (h1 : E (A × B × C × D × E5) (un5 U) (un5 V) (un5 ok) (un5 μ) (a0, b0, c0, d0, e0)) (h2 : ∀ a b c d e, ok a b c d e → Bd (A × B × C × D × E5) (un5 U) (un5 V) (un5 ok) (un5 μ) (a, b, c, d, e)) :
    ∃ (X : Type) (U : X → List (Nat × AV)) (V : X → Store) (ok : X → Prop) (μ : X → Nat) (x0 : X), (ok x0 ∧ E X U V ok μ x0) ∧ ∀ x, ok x → Bd X U V ok μ x :=
  ⟨A × B × C × D × E5, un5 U, un5 V, un5 ok, un5 μ, (a0, b0, c0, d0, e0), ⟨h0, h1⟩, fun (a, b, c, d, e) h => h2 a b c d e h⟩
theorem lp6 {A B C D E5 F6 : Type} (U : A → B → C → D → E5 → F6 → List (Nat × AV)) (V : A → B → C → D → E5 → F6 → Store) (ok : A → B → C → D → E5 → F6 → Prop) (μ : A → B → C → D → E5 → F6 → Nat) (a0 : A) (b0 : B) (c0 : C) (d0 : D) (e0 : E5) (f0 : F6) {E Bd : (Y : Type) → (Y → List (Nat × AV)) → (Y → Store) → (Y → Prop) → (Y → Nat) → Y → Prop}
    (h0 : ok a0 b0 c0 d0 e0 f0) (h1 : E (A × B × C × D × E5 × F6) (un6 U) (un6 V) (un6 ok) (un6 μ) (a0, b0, c0, d0, e0, f0)) (h2 : ∀ a b c d e f, ok a b c d e f → Bd (A × B × C × D × E5 × F6) (un6 U) (un6 V) (un6 ok) (un6 μ) (a, b, c, d, e, f)) :
    ∃ (X : Type) (U : X → List (Nat × AV)) (V : X → Store) (ok : X → Prop) (μ : X → Nat) (x0 : X), (ok x0 ∧ E X U V ok μ x0) ∧ ∀ x, ok x → Bd X U V ok μ x :=
  ⟨A × B × C × D × E5 × F6, un6 U, un6 V, un6 ok, un6 μ, (a0, b0, c0, d0, e0, f0), ⟨h0, h1⟩, fun (a, b, c, d, e, f) h => h2 a b c d e f h⟩
abbrev un7 {A B C D E F G : Type} {γ : Sort _} (f : A → B → C → D → E → F → G → γ) (p : A × B × C × D × E × F × G) : γ := match p with | (a, b, c, d, e, g, h) => f a b c d e g h
theorem lp7 {A B C D E5 F6 G7 : Type} (U : A → B → C → D → E5 → F6 → G7 → List (Nat × AV)) (V : A → B → C → D → E5 → F6 → G7 → Store) (ok : A → B → C → D → E5 → F6 → G7 → Prop) (μ : A → B → C → D → E5 → F6 → G7 → Nat) (a0 : A) (b0 : B) (c0 : C) (d0 : D) (e0 : E5) (f0 : F6) (g0 : G7) {E Bd : (Y : Type) → (Y → List (Nat × AV)) → (Y → Store) → (Y → Prop) → (Y → Nat) → Y → Prop}
    (h0 : ok a0 b0 c0 d0 e0 f0 g0) (h1 : E (A × B × C × D × E5 × F6 × G7) (un7 U) (un7 V) (un7 ok) (un7 μ) (a0, b0, c0, d0, e0, f0, g0)) (h2 : ∀ a b c d e f g, ok a b c d e f g → Bd (A × B × C × D × E5 × F6 × G7) (un7 U) (un7 V) (un7 ok) (un7 μ) (a, b, c, d, e, f, g)) :
    ∃ (X : Type) (U : X → List (Nat × AV)) (V : X → Store) (ok : X → Prop) (μ : X → Nat) (x0 : X), (ok x0 ∧ E X U V ok μ x0) ∧ ∀ x, ok x → Bd X U V ok μ x :=
  ⟨A × B × C × D × E5 × F6 × G7, un7 U, un7 V, un7 ok, un7 μ, (a0, b0, c0, d0, e0, f0, g0), ⟨h0, h1⟩, fun (a, b, c, d, e, f, g) h => h2 a b c d e f g h⟩
abbrev un8 {T0 T1 T2 T3 T4 T5 T6 T7 : Type} {γ : Sort _} (q : T0 → T1 → T2 → T3 → T4 → T5 → T6 → T7 → γ) (p : T0 × T1 × T2 × T3 × T4 × T5 × T6 × T7) : γ := match p with | (a, b, c, d, e, f, g, h) => q a b c d e f g h
theorem lp8 {T0 T1 T2 T3 T4 T5 T6 T7 : Type} (U : T0 → T1 → T2 → T3 → T4 → T5 → T6 → T7 → List (Nat × AV)) (V : T0 → T1 → T2 → T3 → T4 → T5 → T6 → T7 → Store) (ok : T0 → T1 → T2 → T3 → T4 → T5 → T6 → T7 → Prop) (μ : T0 → T1 → T2 → T3 → T4 → T5 → T6 → T7 → Nat) (a0 : T0) (b0 : T1) (c0 : T2) (d0 : T3) (e0 : T4) (f0 : T5) (g0 : T6) (h0 : T7) {EE Bd : (Y : Type) → (Y → List (Nat × AV)) → (Y → Store) → (Y → Prop) → (Y → Nat) → Y → Prop}
    (q0 : ok a0 b0 c0 d0 e0 f0 g0 h0) (q1 : EE (T0 × T1 × T2 × T3 × T4 × T5 × T6 × T7) (un8 U) (un8 V) (un8 ok) (un8 μ) (a0, b0, c0, d0, e0, f0, g0, h0)) (q2 : ∀ a b c d e f g h, ok a b c d e f g h → Bd (T0 × T1 × T2 × T3 × T4 × T5 × T6 × T7) (un8 U) (un8 V) (un8 ok) (un8 μ) (a, b, c, d, e, f, g, h)) :
    ∃ (X : Type) (U : X → List (Nat × AV)) (V : X → Store) (ok : X → Prop) (μ : X → Nat) (x0 : X), (ok x0 ∧ EE X U V ok μ x0) ∧ ∀ x, ok x → Bd X U V ok μ x :=
  ⟨T0 × T1 × T2 × T3 × T4 × T5 × T6 × T7, un8 U, un8 V, un8 ok, un8 μ, (a0, b0, c0, d0, e0, f0, g0, h0), ⟨q0, q1⟩, fun (a, b, c, d, e, f, g, h) hh => q2 a b c d e f g h hh⟩
abbrev un9 {T0 T1 T2 T3 T4 T5 T6 T7 T8 : Type} {γ : Sort _} (q : T0 → T1 → T2 → T3 → T4 → T5 → T6 → T7 → T8 → γ) (p : T0 × T1 × T2 × T3 × T4 × T5 × T6 × T7 × T8) : γ := match p with | (a, b, c, d, e, f, g, h, i) => q a b c d e f g h i
theorem lp9 {T0 T1 T2 T3 T4 T5 T6 T7 T8 : Type} (U : T0 → T1 → T2 → T3 → T4 → T5 → T6 → T7 → T8 → List (Nat × AV)) (V : T0 → T1 → T2 → T3 → T4 → T5 → T6 → T7 → T8 → Store) (ok : T0 → T1 → T2 → T3 → T4 → T5 → T6 → T7 → T8 → Prop) (μ : T0 → T1 → T2 → T3 → T4 → T5 → T6 → T7 → T8 → Nat) (a0 : T0) (b0 : T1) (c0 : T2) (d0 : T3) (e0 : T4) (f0 : T5) (g0 : T6) (h0 : T7) (i0 : T8) {EE Bd : (Y : Type) → (Y → List (Nat × AV)) → (Y → Store) → (Y → Prop) → (Y → Nat) → Y → Prop}
    (q0 : ok a0 b0 c0 d0 e0 f0 g0 h0 i0) (q1 : EE (T0 × T1 × T2 × T3 × T4 × T5 × T6 × T7 × T8) (un9 U) (un9 V) (un9 ok) (un9 μ) (a0, b0, c0, d0, e0, f0, g0, h0, i0)) (q2 : ∀ a b c d e f g h i, ok a b c d e f g h i → Bd (T0 × T1 × T2 × T3 × T4 × T5 × T6 × T7 × T8) (un9 U) (un9 V) (un9 ok) (un9 μ) (a, b, c, d, e, f, g, h, i)) :
    ∃ (X : Type) (U : X → List (Nat × AV)) (V : X → Store) (ok : X → Prop) (μ : X → Nat) (x0 : X), (ok x0 ∧ EE X U V ok μ x0) ∧ ∀ x, ok x → Bd X U V ok μ x :=
  ⟨T0 × T1 × T2 × T3 × T4 × T5 × T6 × T7 × T8, un9 U, un9 V, un9 ok, un9 μ, (a0, b0, c0, d0, e0, f0, g0, h0, i0), ⟨q0, q1⟩, fun (a, b, c, d, e, f, g, h, i) hh => q2 a b c d e f g h i hh⟩
theorem all4 {T0 T1 T2 T3 : Type} {P : T0 × T1 × T2 × T3 → Prop} (q : ∀ a b c d, P (a, b, c, d)) : ∀ z, P z := fun (a, b, c, d) => q a b c d
theorem all7 {T0 T1 T2 T3 T4 T5 T6 : Type} {P : T0 × T1 × T2 × T3 × T4 × T5 × T6 → Prop} (q : ∀ a b c d e f g, P (a, b, c, d, e, f, g)) : ∀ z, P z := fun (a, b, c, d, e, f, g) => q a b c d e f g
theorem schShr {TY : List TyE} {F : Go.AM.Spec} {ops : List Oper} {t : Sch} {T0 T : List AV} {S0 S : Store} {Q : List AV → Store → Prop} (h : ∀ K : List AV → Store → Prop, K T S → schK TY F ops t T0 S0 K) (hq : Q T S) : schK TY F ops t T0 S0 Q := h Q hq
end Go.Proofs.Ytpanlghofeebhaa
end
section
/- Package congr: generators: contract. -/
namespace Go.Proofs.Ytpanlghofeebhaa
open Go Go.AM
set_option maxRecDepth 100000
structure GnS (t : List (List Int)) (x : Nat) (G R : List Int) (I : List Bool) (D : List Int) : Prop where
  il : I.length = t.length
  dl : D.length = t.length
  mks : ∀ z, I.getD z false = true → Mk t G z
  lo : ∀ z, z < x → I.getD z false = true
  gs : ∀ g ∈ G, 0 ≤ g ∧ g < (t.length : Int)
  gl : G.length ≤ x
  rs : ∀ y ∈ R, (0 ≤ y ∧ y < (t.length : Int)) ∧ I.getD y.toNat false = true
  rn : R.Nodup
  dd : ∀ z, 0 ≤ D.getD z 0 ∧ D.getD z 0 ≤ (G.length : Int)
section
variable {t : List (List Int)} {x : Nat} {G R : List Int} {I : List Bool} {D : List Int}
theorem GnS.rl (h : GnS t x G R I D) : R.length ≤ t.length := nodup_len h.rn fun y hy => (h.rs y hy).1
theorem GnS.start (t : List (List Int)) : GnS t 0 [] [] (List.replicate t.length false) (List.replicate t.length 0) := by
  refine ⟨by simp, by simp, fun z hz => ?_, fun z hz => absurd hz (Nat.not_lt_zero _), fun _ h => (nomatch h), Nat.le_refl _, fun _ h => (nomatch h), .nil, fun z => ?_⟩
  · simp [List.getD, List.getElem?_replicate] at hz
    split at hz <;> simp at hz
  · have : (List.replicate t.length (0 : Int)).getD z 0 = 0 := by
      simp only [List.getD, List.getElem?_replicate]
      split <;> rfl
    rw [this]; simp
theorem set_true {I : List Bool} {x z : Nat} (h : (I.set x true).getD z false = true) : z = x ∨ I.getD z false = true := by
  by_cases e : z = x
  · exact .inl e
  · rw [getD_set_ne (Ne.symm e)] at h; exact .inr h
theorem keep_true {I : List Bool} {x z : Nat} (h : I.getD z false = true) : (I.set x true).getD z false = true := by
  by_cases e : x = z
  · subst e
    have hl : x < I.length := Nat.lt_of_not_le fun hl => by
      rw [List.getD, List.getElem?_eq_none hl] at h; cases h
    exact getD_set_eq hl
  · rw [getD_set_ne e]; exact h
theorem GnS.gen (h : GnS t x G R I D) (hx : x < t.length) (hn : I.getD x false = false) : GnS t (x + 1) (G ++ [(x : Int)]) (R ++ [(x : Int)]) (I.set x true) D := by
  have hil := h.il
  refine ⟨by rw [List.length_set]; exact h.il, h.dl, fun z hz => ?_, fun z hz => ?_, fun g hg => ?_, by have := h.gl; simp; omega, fun y hy => ?_, ?_, fun z => by have := h.dd z; rw [List.length_append, List.length_singleton]; omega⟩
  · rcases set_true hz with rfl | hz
    · have := Mk.gen (t := t) (gens := G ++ [(z : Int)]) (g := (z : Int)) (by simp)
      simpa using this
    · exact (h.mks z hz).mono fun a ha => List.mem_append_left _ ha
  · by_cases e : z = x
    · subst e; exact getD_set_eq (by omega)
    · exact keep_true (h.lo z (by omega))
  · rcases List.mem_append.1 hg with hg | hg
    · exact h.gs g hg
    · rw [List.mem_singleton] at hg; omega
  · rcases List.mem_append.1 hy with hy | hy
    · exact ⟨(h.rs y hy).1, keep_true (h.rs y hy).2⟩
    · rw [List.mem_singleton] at hy
      subst hy
      exact ⟨by omega, by rw [Int.toNat_natCast]; exact getD_set_eq (by omega)⟩
  · rw [List.nodup_append]
    refine ⟨h.rn, by simp, fun a ha b hb => ?_⟩
    rw [List.mem_singleton] at hb
    subst hb
    rintro rfl
    have := (h.rs _ ha).2
    rw [Int.toNat_natCast, hn] at this; cases this
theorem GnS.skip (h : GnS t x G R I D) (hx : x < t.length) (hn : I.getD x false = true) : GnS t (x + 1) G R I D :=
  ⟨h.il, h.dl, h.mks, fun z hz => by
    by_cases e : z = x
    · subst e; exact hn
    · exact h.lo z (by omega), h.gs, by have := h.gl; omega, h.rs, h.rn, h.dd⟩
theorem GnS.push (h : GnS t x G R I D) (hs : Sh t) {y g : Int} (hy : y ∈ R) (hg : g ∈ G) (hn : I.getD (en t y.toNat g.toNat) false = false) : GnS t x G (R ++ [(en t y.toNat g.toNat : Int)]) (I.set (en t y.toNat g.toNat) true) D := by
  have hyr := h.rs y hy
  have hgr := h.gs g hg
  have hlt := (hs.ent (x := y.toNat) (y := g.toNat) (by omega) (by omega)).2
  have hil := h.il
  refine ⟨by rw [List.length_set]; exact h.il, h.dl, fun z hz => ?_, fun z hz => keep_true (h.lo z hz), h.gs, h.gl, fun a ha => ?_, ?_, h.dd⟩
  · rcases set_true hz with rfl | hz
    · exact .mul (h.mks _ hyr.2) (.gen hg)
    · exact h.mks z hz
  · rcases List.mem_append.1 ha with ha | ha
    · exact ⟨(h.rs a ha).1, keep_true (h.rs a ha).2⟩
    · rw [List.mem_singleton] at ha
      subst ha
      exact ⟨by omega, by rw [Int.toNat_natCast]; exact getD_set_eq (by omega)⟩
  · rw [List.nodup_append]
    refine ⟨h.rn, by simp, fun a ha b hb => ?_⟩
    rw [List.mem_singleton] at hb
    subst hb
    rintro rfl
    have := (h.rs _ ha).2
    rw [Int.toNat_natCast, hn] at this; cases this
theorem GnS.step (h : GnS t x G R I D) {y : Nat} (hy : y < t.length) (hd : D.getD y 0 < (G.length : Int)) : GnS t x G R I (D.set y (D.getD y 0 + 1)) := by
  have hdl := h.dl
  refine ⟨h.il, by rw [List.length_set]; exact h.dl, h.mks, h.lo, h.gs, h.gl, h.rs, h.rn, fun z => ?_⟩
  by_cases e : y = z
  · subst e; rw [getD_set_eq (by omega)]; have := h.dd y; omega
  · rw [getD_set_ne e]; exact h.dd z
theorem GnS.done (h : GnS t x G R I D) (hx : t.length ≤ x) : Spans t G := ⟨h.gs, fun z hz => h.mks z (h.lo z (by omega))⟩
end
set_option maxHeartbeats 1000000 in
theorem cgens_fn (t : List (List Int)) (h : Sh t) : EF 90 [.ro (.rows .i64 t)] (fun l : List Int => .new (.ints .i64 l)) (fun l => Spans t l ∧ l.length ≤ t.length) := mkE Try.func90 (by decide +kernel) rfl (Nat.le_of_ble_eq_true rfl) fun _ => by
  have hmost := h.most
  refine And.intro (by omega) ?_
  refine And.intro (by omega) ?_
  refine And.intro (by omega) ?_
  refine And.intro (by omega) ?_
  refine Exists.intro [] <| lp5 (fun (x : Nat) (_ _ : List Int) (_ : List Bool) (_ : List Int) => [(19, .int .i64 x), (3, .vec 32), (4, .vec 36)]) (fun _ G R I D => [(32, .vec 0 (.ints .i64 G) []), (36, .vec 0 (.ints .i64 R) []), (13, .vec 0 (.bools I) []), (16, .vec 0 (.ints .i64 D) [])]) (fun x G R I D => x ≤ t.length ∧ GnS t x G R I D) (fun x _ _ _ _ => t.length - x) 0 [] [] (List.replicate t.length false) (List.replicate t.length 0) ⟨Nat.zero_le _, GnS.start t⟩ (by repeat' first | refine And.intro ?_ ?_ | exact True.intro | (show (_ : Int) = (_ : Int); omega) | omega | exact rfl | (simp only [RO.len]; omega)) ?_
  rintro x G R I D ⟨hx, hg⟩
  have il := hg.il
  have dl := hg.dl
  have gl := hg.gl
  have rl := hg.rl
  refine And.intro (fun h1 => ?_) (fun h1 => ?_)
  · have h1 : (x : Int) < (t.length : Int) := h1
    refine And.intro (show 0 ≤ (x : Int) ∧ (x : Int) < (I.length : Int) by omega) ?_
    refine And.intro (fun h2 => ?_) (fun h2 => ?_)
    · have h2 : I.getD x false = true := h2
      refine And.intro (by omega) ?_
      exact nx (x + 1, G, R, I, D) ⟨by omega, hg.skip (by omega) h2⟩ (show t.length - (x + 1) < t.length - x by omega) (by repeat' first | refine And.intro ?_ ?_ | exact True.intro | (show (_ : Int) = (_ : Int); omega) | omega | exact rfl | (simp only [RO.len]; omega))
    · have h2 : I.getD x false = false := h2
      refine And.intro (show 0 ≤ (x : Int) ∧ (x : Int) < (I.length : Int) by omega) ?_
      refine And.intro (by omega) ?_
      refine And.intro (by simp; omega) ?_
      refine And.intro (by simp; omega) ?_
      refine Exists.intro [36] <| lp4 (fun (i : Nat) (_ : List Int) (_ : List Bool) (_ : List Int) => [(8, .int .i64 i), (4, .vec 36)]) (fun _ R I D => [(36, .vec 0 (.ints .i64 R) []), (13, .vec 0 (.bools I) []), (16, .vec 0 (.ints .i64 D) [])]) (fun i R I D => i ≤ R.length ∧ GnS t (x + 1) (G ++ [(x : Int)]) R I D) (fun i _ _ _ => t.length - i) 0 (R ++ [(x : Int)]) (I.set x true) D ⟨Nat.zero_le _, hg.gen (by omega) h2⟩ (by repeat' first | refine And.intro ?_ ?_ | exact True.intro | (show (_ : Int) = (_ : Int); omega) | omega | exact rfl | (simp only [RO.len]; omega)) ?_
      rintro i R1 I1 D1 ⟨hi, hg1⟩
      have il1 := hg1.il
      have dl1 := hg1.dl
      have rl1 := hg1.rl
      have gl1 : (G ++ [(x : Int)]).length = G.length + 1 := by simp
      refine And.intro (fun h3 => ?_) (fun h3 => ?_)
      · have h3 : (i : Int) < (R1.length : Int) := h3
        have hy1 := (hg1.rs _ (getD_mem (d := 0) (i := i) (l := R1) (by omega))).1
        refine And.intro (show 0 ≤ (i : Int) ∧ (i : Int) < (R1.length : Int) by omega) ?_
        have hymem : R1.getD i 0 ∈ R1 := getD_mem (by omega)
        obtain ⟨y, hyd⟩ : ∃ y, R1.getD i 0 = y := ⟨_, rfl⟩
        rw [hyd] at hymem hy1
        refine Exists.intro [9, 36, 38, 43, 45, 46] <| lp3 (fun (_ : List Int) (_ : List Bool) (_ : List Int) => [(4, .vec 36), (9, .int .i64 y)]) (fun R I D => [(36, .vec 0 (.ints .i64 R) []), (13, .vec 0 (.bools I) []), (16, .vec 0 (.ints .i64 D) [])]) (fun R I D => i < R.length ∧ y ∈ R ∧ GnS t (x + 1) (G ++ [(x : Int)]) R I D) (fun _ _ D => G.length + 1 - (D.getD y.toNat 0).toNat) R1 I1 D1 ⟨by omega, hymem, hg1⟩ (by repeat' first | refine And.intro ?_ ?_ | exact True.intro | exact hyd | (show (_ : Int) = (_ : Int); omega) | omega | exact rfl | (simp only [RO.len]; omega)) ?_
        rintro R2 I2 D2 ⟨hi2, hr2, hg2⟩
        have il2 := hg2.il
        have dl2 := hg2.dl
        have rl2 := hg2.rl
        have hd := hg2.dd y.toNat
        have hyl : y.toNat < t.length := by omega
        refine And.intro (show 0 ≤ y ∧ y < (D2.length : Int) by omega) ?_
        refine And.intro (fun h4 => ?_) (fun h4 => ?_)
        · have h4 : D2.getD y.toNat 0 < ((G ++ [(x : Int)]).length : Int) := h4
          have hgm : (G ++ [(x : Int)]).getD (D2.getD y.toNat 0).toNat 0 ∈ (G ++ [(x : Int)]) := getD_mem (by omega)
          have hgr := hg2.gs _ hgm
          have hdn : (D2.getD y.toNat 0).toNat < (G ++ [(x : Int)]).length := by omega
          have e1 := h.ent (x := y.toNat) (y := ((G ++ [(x : Int)]).getD (D2.getD y.toNat 0).toNat 0).toNat) (by omega) (by omega)
          have r1 := h.len (x := y.toNat) (by omega)
          refine Or.inl ?_
          refine Exists.intro [false, false, false, false, false, false, false, false, false, false, false, false, false, false] (And.intro (by decide +kernel) ?_)
          refine And.intro (show 0 ≤ y ∧ y < (t.length : Int) by omega) ?_
          refine And.intro (show 0 ≤ y ∧ y < (D2.length : Int) by omega) ?_
          refine And.intro (show 0 ≤ D2.getD y.toNat 0 ∧ D2.getD y.toNat 0 < ((G ++ [(x : Int)]).length : Int) by omega) ?_
          refine And.intro (show 0 ≤ (G ++ [(x : Int)]).getD (D2.getD y.toNat 0).toNat 0 ∧ (G ++ [(x : Int)]).getD (D2.getD y.toNat 0).toNat 0 < ((t.getD y.toNat []).length : Int) by omega) ?_
          have hz : 0 ≤ (t.getD y.toNat []).getD ((G ++ [(x : Int)]).getD (D2.getD y.toNat 0).toNat 0).toNat 0 ∧ (t.getD y.toNat []).getD ((G ++ [(x : Int)]).getD (D2.getD y.toNat 0).toNat 0).toNat 0 < (I2.length : Int) := by omega
          have hzn : ((t.getD y.toNat []).getD ((G ++ [(x : Int)]).getD (D2.getD y.toNat 0).toNat 0).toNat 0).toNat = en t y.toNat ((G ++ [(x : Int)]).getD (D2.getD y.toNat 0).toNat 0).toNat := by omega
          have hst : ∀ {R3 : List Int} {I3 : List Bool}, GnS t (x + 1) (G ++ [(x : Int)]) R3 I3 D2 → GnS t (x + 1) (G ++ [(x : Int)]) R3 I3 (D2.set y.toNat (D2.getD y.toNat 0 + 1)) := fun hh => hh.step hyl h4
          have hms : G.length + 1 - ((D2.set y.toNat (D2.getD y.toNat 0 + 1)).getD y.toNat 0).toNat < G.length + 1 - (D2.getD y.toNat 0).toNat := by
            rw [getD_set_eq (by omega)]; omega
          refine And.intro hz ?_
          refine And.intro (fun h5 => ?_) (fun h5 => ?_)
          · have h5 : (!I2.getD ((t.getD y.toNat []).getD ((G ++ [(x : Int)]).getD (D2.getD y.toNat 0).toNat 0).toNat 0).toNat false) = true := h5
            rw [Bool.not_eq_true', hzn] at h5
            have hp := hg2.push h hr2 hgm h5
            rw [← hzn, Int.toNat_of_nonneg hz.1] at hp
            have hpl := hp.rl
            refine And.intro hz ?_
            refine And.intro hz.1 ?_
            refine And.intro (show (((R2 ++ [(t.getD y.toNat []).getD ((G ++ [(x : Int)]).getD (D2.getD y.toNat 0).toNat 0).toNat 0]).length : Nat) : Int) ≤ 17592186044416 by omega) ?_
            refine And.intro (show 0 ≤ y ∧ y < (D2.length : Int) by omega) ?_
            refine And.intro (show -9223372036854775808 ≤ D2.getD y.toNat 0 + 1 ∧ D2.getD y.toNat 0 + 1 ≤ 9223372036854775807 by omega) ?_
            refine And.intro (show 0 ≤ y ∧ y < (D2.length : Int) by omega) ?_
            refine And.intro (show ((0 : Nat) : Int) ≤ y by omega) ?_
            exact nx (R2 ++ [(t.getD y.toNat []).getD ((G ++ [(x : Int)]).getD (D2.getD y.toNat 0).toNat 0).toNat 0], I2.set ((t.getD y.toNat []).getD ((G ++ [(x : Int)]).getD (D2.getD y.toNat 0).toNat 0).toNat 0).toNat true, D2.set y.toNat (D2.getD y.toNat 0 + 1)) ⟨by simp; omega, List.mem_append_left _ hr2, hst hp⟩ hms (by repeat' first | refine And.intro ?_ ?_ | exact True.intro | (show (_ : Int) = (_ : Int); omega) | omega | exact rfl | (simp only [RO.len]; omega))
          · refine And.intro (show 0 ≤ y ∧ y < (D2.length : Int) by omega) ?_
            refine And.intro (show -9223372036854775808 ≤ D2.getD y.toNat 0 + 1 ∧ D2.getD y.toNat 0 + 1 ≤ 9223372036854775807 by omega) ?_
            refine And.intro (show 0 ≤ y ∧ y < (D2.length : Int) by omega) ?_
            refine And.intro (show ((0 : Nat) : Int) ≤ y by omega) ?_
            exact nx (R2, I2, D2.set y.toNat (D2.getD y.toNat 0 + 1)) ⟨hi2, hr2, hst hg2⟩ hms (by repeat' first | refine And.intro ?_ ?_ | exact True.intro | (show (_ : Int) = (_ : Int); omega) | omega | exact rfl | (simp only [RO.len]; omega))
        · refine And.intro (by omega) ?_
          exact nx (i + 1, R2, I2, D2) ⟨by omega, hg2⟩ (show t.length - (i + 1) < t.length - i by omega) (by repeat' first | refine And.intro ?_ ?_ | exact True.intro | (show (_ : Int) = (_ : Int); omega) | omega | exact rfl | (simp only [RO.len]; omega))
      · refine And.intro (by omega) ?_
        exact nx (x + 1, G ++ [(x : Int)], R1, I1, D1) ⟨by omega, hg1⟩ (show t.length - (x + 1) < t.length - x by omega) (by repeat' first | refine And.intro ?_ ?_ | exact True.intro | (show (_ : Int) = (_ : Int); omega) | omega | exact rfl | (simp only [RO.len]; omega))
  · have h1 : (t.length : Int) ≤ (x : Int) := h1
    refine Exists.intro G (And.intro ⟨hg.done (by omega), by omega⟩ ?_)
    exact And.intro (And.intro (by omega) rfl) trivial
end Go.Proofs.Ytpanlghofeebhaa
end
section
/- slices.Clone of integers: contract. -/
namespace Go.Proofs.Ytpanlghofeebhaa
open Go Go.AM
set_option maxRecDepth 100000
theorem cloneI_fn (l : List Int) (hl : l.length ≤ 4096) : QF 126 [.ro (.ints .i64 l)] (.new (.ints .i64 l)) := mkQ Try.func126 (by decide +kernel) rfl (Nat.le_of_ble_eq_true rfl) fun _ => by
  refine And.intro (fun h1 => ?_) ?_
  · exact And.intro h1 trivial
  · refine And.intro (by simp; omega) ?_
    exact And.intro ⟨by omega, by simp⟩ trivial
end Go.Proofs.Ytpanlghofeebhaa
end
