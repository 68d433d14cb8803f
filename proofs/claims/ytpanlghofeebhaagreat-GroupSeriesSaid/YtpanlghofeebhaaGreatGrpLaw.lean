import Derived.Test.YtpanlghofeebhaaGreatEqvLaw
import Derived.Test.YtpanlghofeebhaaGreatIdealLaw
section
/- Orders by a comparison; sorted lists; the lexicographic order and the order by size. Plain. -/
namespace Go.Proofs.YtpanlghofeebhaaGreat
open Go Go.AM
structure TotC {α : Type} (c : α → α → Int) : Prop where
  swap : ∀ a b, c b a = - c a b
  eq : ∀ a b, c a b = 0 → a = b
  trans : ∀ a b d, c a b < 0 → c b d < 0 → c a d < 0
theorem TotC.self {α : Type} {c : α → α → Int} (h : TotC c) (a : α) : c a a = 0 := by have := h.swap a a; omega
def cmpI (a b : Int) : Int := if a < b then -1 else if b < a then 1 else 0
theorem cmpI_tot : TotC cmpI where
  swap a b := by unfold cmpI; split <;> split <;> (try split) <;> omega
  eq a b := by unfold cmpI; split <;> (try split) <;> omega
  trans a b d := by unfold cmpI; intro h1 h2; split at h1 <;> (try split at h1) <;> split at h2 <;> (try split at h2) <;> first | omega | (rw [if_pos (by omega)]; omega)
def cmpL : List Int → List Int → Int
  | [], [] => 0 | [], _ :: _ => -1 | _ :: _, [] => 1 | a :: l, b :: m => if cmpI a b ≠ 0 then cmpI a b else cmpL l m
theorem cmpL_swap : ∀ a b : List Int, cmpL b a = - cmpL a b
  | [], [] => rfl
  | [], _ :: _ => rfl
  | _ :: _, [] => rfl
  | a :: l, b :: m => by
    have e := cmpI_tot.swap a b
    have ih := cmpL_swap l m
    simp only [cmpL]
    by_cases h : cmpI a b = 0
    · rw [if_neg (by omega), if_neg (by omega), ih]
    · rw [if_pos (by omega), if_pos h, e]
theorem cmpL_eq : ∀ a b : List Int, cmpL a b = 0 → a = b
  | [], [], _ => rfl
  | [], _ :: _, h => by simp [cmpL] at h
  | _ :: _, [], h => by simp [cmpL] at h
  | a :: l, b :: m, h => by
    simp only [cmpL] at h
    by_cases h0 : cmpI a b = 0
    · rw [if_neg (by omega)] at h
      rw [cmpI_tot.eq a b h0, cmpL_eq l m h]
    · rw [if_pos h0] at h; exact absurd h h0
theorem cmpL_trans : ∀ a b d : List Int, cmpL a b < 0 → cmpL b d < 0 → cmpL a d < 0
  | [], [], _, h, _ => by simp [cmpL] at h
  | [], _ :: _, [], _, h => by simp [cmpL] at h
  | [], _ :: _, _ :: _, _, _ => by simp [cmpL]
  | _ :: _, [], _, h, _ => by simp [cmpL] at h
  | _ :: _, _ :: _, [], _, h => by simp [cmpL] at h
  | a :: l, b :: m, d :: n, h1, h2 => by
    simp only [cmpL] at h1 h2 ⊢
    have ih := cmpL_trans l m n
    by_cases e1 : cmpI a b = 0
    · rw [if_neg (by omega)] at h1
      obtain rfl := cmpI_tot.eq a b e1
      by_cases e2 : cmpI a d = 0
      · rw [if_neg (by omega)] at h2 ⊢; exact ih h1 h2
      · rw [if_pos e2] at h2 ⊢; exact h2
    · rw [if_pos e1] at h1
      by_cases e2 : cmpI b d = 0
      · obtain rfl := cmpI_tot.eq b d e2
        rw [if_pos e1]; exact h1
      · rw [if_pos e2] at h2
        have := cmpI_tot.trans a b d h1 h2
        rw [if_pos (by omega)]; exact this
theorem cmpL_tot : TotC cmpL := ⟨cmpL_swap, cmpL_eq, cmpL_trans⟩
def cmpS (a b : List Int) : Int := if cmpI a.length b.length ≠ 0 then cmpI a.length b.length else cmpL a b
theorem cmpS_tot : TotC cmpS where
  swap a b := by
    have e := cmpI_tot.swap a.length b.length
    unfold cmpS
    by_cases h : cmpI (a.length : Int) b.length = 0
    · rw [if_neg (by omega), if_neg (by omega)]; exact cmpL_swap a b
    · rw [if_pos (by omega), if_pos h]; exact e
  eq a b h := by
    unfold cmpS at h
    by_cases h0 : cmpI (a.length : Int) b.length = 0
    · rw [if_neg (by omega)] at h; exact cmpL_eq a b h
    · rw [if_pos h0] at h; exact absurd h h0
  trans a b d h1 h2 := by
    unfold cmpS at *
    by_cases e1 : cmpI (a.length : Int) b.length = 0
    · rw [if_neg (by omega)] at h1
      have e1' := cmpI_tot.eq _ _ e1
      rw [e1']
      by_cases e2 : cmpI (b.length : Int) d.length = 0
      · rw [if_neg (by omega)] at h2 ⊢; exact cmpL_trans a b d h1 h2
      · rw [if_pos e2] at h2 ⊢; exact h2
    · rw [if_pos e1] at h1
      by_cases e2 : cmpI (b.length : Int) d.length = 0
      · have e2' := cmpI_tot.eq _ _ e2
        rw [← e2', if_pos e1]; exact h1
      · rw [if_pos e2] at h2
        have := cmpI_tot.trans _ _ _ h1 h2
        rw [if_pos (by omega)]; exact this
def Srt {α : Type} (c : α → α → Int) (l : List α) : Prop := l.Pairwise fun a b => c a b < 0
def srt {α : Type} (c : α → α → Int) (l : List α) : List α := l.mergeSort fun a b => decide (c a b ≤ 0)
section
variable {α : Type} {c : α → α → Int}
theorem Srt.nodup (h : TotC c) {l : List α} (hs : Srt c l) : l.Nodup := hs.imp fun {a b} hab e => by subst e; have := h.self a; omega
theorem le_trans' (h : TotC c) {a b d : α} (h1 : c a b ≤ 0) (h2 : c b d ≤ 0) : c a d ≤ 0 := by
  by_cases e1 : c a b = 0
  · obtain rfl := h.eq _ _ e1; exact h2
  · by_cases e2 : c b d = 0
    · obtain rfl := h.eq _ _ e2; exact h1
    · have := h.trans a b d (by omega) (by omega); omega
theorem srt_perm (l : List α) : (srt c l).Perm l := List.mergeSort_perm _ _
theorem srt_mem {l : List α} {x : α} : x ∈ srt c l ↔ x ∈ l := (srt_perm l).mem_iff
theorem srt_len (l : List α) : (srt c l).length = l.length := (srt_perm l).length_eq
theorem srt_le (h : TotC c) (l : List α) : (srt c l).Pairwise fun a b => c a b ≤ 0 := by
  have := List.pairwise_mergeSort (le := fun a b => decide (c a b ≤ 0)) (fun a b d h1 h2 => decide_eq_true (le_trans' h (of_decide_eq_true h1) (of_decide_eq_true h2)))
    (fun a b => by
      have := h.swap a b
      by_cases h0 : c a b ≤ 0
      · simp [h0]
      · have : c b a ≤ 0 := by omega
        simp [this]) l
  exact this.imp fun {a b} hab => of_decide_eq_true hab
theorem srt_srt (h : TotC c) {l : List α} (hn : l.Nodup) : Srt c (srt c l) := by
  have h1 := srt_le h l
  have h2 : (srt c l).Nodup := (srt_perm l).nodup_iff.2 hn
  have := h1.and h2
  refine this.imp fun {a b} hab => ?_
  have : c a b ≠ 0 := fun e => hab.2 (h.eq _ _ e)
  omega
theorem perm_sorted (h : TotC c) : ∀ {l m : List α}, l.Pairwise (fun a b => c a b ≤ 0) → m.Pairwise (fun a b => c a b ≤ 0) → l.Perm m → l = m
  | [], m, _, _, hp => by rw [List.nil_perm.1 hp]
  | a :: l, [], _, _, hp => by have := hp.length_eq; simp at this
  | a :: l, b :: m, h1, h2, hp => by
    have h1' := List.pairwise_cons.1 h1
    have h2' := List.pairwise_cons.1 h2
    have e : a = b := by
      have ha : a ∈ b :: m := hp.mem_iff.1 (by simp)
      have hb : b ∈ a :: l := hp.mem_iff.2 (by simp)
      rcases List.mem_cons.1 ha with e | ha
      · exact e
      · rcases List.mem_cons.1 hb with e | hb
        · exact e.symm
        · have g1 := h2'.1 a ha
          have g2 := h1'.1 b hb
          have := h.swap a b
          exact h.eq _ _ (by omega)
    subst e
    rw [perm_sorted h h1'.2 h2'.2 hp.cons_inv]
theorem srt_uniq (h : TotC c) {l m : List α} (hm : m.Pairwise fun a b => c a b ≤ 0) (hp : m.Perm l) : srt c l = m :=
  perm_sorted h (srt_le h l) hm ((srt_perm l).trans hp.symm)
theorem sorted_uniq (h : TotC c) {l m : List α} (hl : Srt c l) (hm : Srt c m) (he : ∀ x, x ∈ l ↔ x ∈ m) : l = m :=
  perm_sorted h (hl.imp fun h => by omega) (hm.imp fun h => by omega) ((List.perm_ext_iff_of_nodup (hl.nodup h) (hm.nodup h)).2 he)
theorem srt_of (h : TotC c) {l m : List α} (hl : l.Nodup) (hm : Srt c m) (he : ∀ x, x ∈ l ↔ x ∈ m) : srt c l = m :=
  sorted_uniq h (srt_srt h hl) hm fun x => by rw [srt_mem, he x]
end
theorem cmpL_at : ∀ {a b : List Int} {i : Nat}, (∀ j, j < i → a.getD j 0 = b.getD j 0) → i ≤ a.length → i ≤ b.length → cmpL a b = cmpL (a.drop i) (b.drop i)
  | a, b, 0, _, _, _ => by simp
  | [], _, i + 1, _, h, _ => by simp at h
  | _ :: _, [], i + 1, _, _, h => by simp at h
  | x :: a, y :: b, i + 1, h, h1, h2 => by
    have e : x = y := by simpa using h 0 (by omega)
    subst e
    rw [List.drop_succ_cons, List.drop_succ_cons, ← cmpL_at (a := a) (b := b) (i := i) (fun j hj => by simpa using h (j + 1) (by omega)) (by simpa using h1) (by simpa using h2)]
    simp [cmpL, cmpI_tot.self]
theorem cmpL_here {a b : List Int} {i : Nat} (h : ∀ j, j < i → a.getD j 0 = b.getD j 0) (h1 : i < a.length) (h2 : i < b.length) (hne : a.getD i 0 ≠ b.getD i 0) : cmpL a b = cmpI (a.getD i 0) (b.getD i 0) := by
  rw [cmpL_at h (by omega) (by omega), List.drop_eq_getElem_cons h1, List.drop_eq_getElem_cons h2]
  rw [getD_eq h1, getD_eq h2] at *
  simp only [cmpL]
  rw [if_pos fun e => hne (cmpI_tot.eq _ _ e)]
theorem cmpL_end {a b : List Int} {i : Nat} (h : ∀ j, j < i → a.getD j 0 = b.getD j 0) (h1 : i ≤ a.length) (h2 : i ≤ b.length) (he : i = a.length ∨ i = b.length) : cmpL a b = cmpI a.length b.length := by
  rw [cmpL_at h h1 h2]
  unfold cmpI
  rcases he with he | he
  · rw [List.drop_of_length_le (by omega)]
    cases hb : b.drop i with
    | nil =>
      have := congrArg List.length hb
      simp at this
      rw [if_neg (by omega), if_neg (by omega)]; rfl
    | cons =>
      have := congrArg List.length hb
      simp at this
      rw [if_pos (by omega)]; rfl
  · rw [show b.drop i = [] from List.drop_of_length_le (by omega)]
    cases ha : a.drop i with
    | nil =>
      have := congrArg List.length ha
      simp at this
      rw [if_neg (by omega), if_neg (by omega)]; rfl
    | cons =>
      have := congrArg List.length ha
      simp at this
      rw [if_neg (by omega), if_pos (by omega)]; rfl
noncomputable def insC {α : Type} (c : α → α → Int) (l : List α) (x : α) : List α := open Classical in if x ∈ l then l else srt c (x :: l)
section
variable {α : Type} {c : α → α → Int}
theorem insC_mem {l : List α} {x y : α} : y ∈ insC c l x ↔ y = x ∨ y ∈ l := by
  unfold insC
  split
  · rename_i h; exact ⟨.inr, fun h' => h'.elim (fun e => by rw [e]; exact h) id⟩
  · rw [srt_mem, List.mem_cons]
theorem insC_srt (h : TotC c) {l : List α} {x : α} (hl : Srt c l) : Srt c (insC c l x) := by
  unfold insC
  split
  · exact hl
  · rename_i hx; exact srt_srt h (List.nodup_cons.2 ⟨hx, hl.nodup h⟩)
theorem insC_at (h : TotC c) {l : List α} {x d : α} (hl : Srt c l) {i : Nat} (hi : i ≤ l.length) (h1 : ∀ j, i ≤ j → j < l.length → c x (l.getD j d) < 0) (h2 : 0 < i → c (l.getD (i - 1) d) x < 0) : l.take i ++ [x] ++ l.drop i = insC c l x := by
  have low : ∀ j, j < i → c (l.getD j d) x < 0 := fun j hj => by
    by_cases e : j = i - 1
    · rw [e]; exact h2 (by omega)
    · have hp := List.pairwise_iff_getElem.1 hl j (i - 1) (by omega) (by omega) (by omega)
      rw [getD_eq (by omega)]
      have := h2 (by omega)
      rw [getD_eq (by omega)] at this
      exact h.trans _ _ _ hp this
  refine sorted_uniq h ?_ (insC_srt h hl) fun y => ?_
  · unfold Srt
    rw [List.append_assoc, List.pairwise_append]
    refine ⟨hl.sublist (List.take_sublist _ _), ?_, fun a ha b hb => ?_⟩
    · rw [List.singleton_append, List.pairwise_cons]
      refine ⟨fun b hb => ?_, hl.sublist (List.drop_sublist _ _)⟩
      obtain ⟨j, hj, e⟩ := mem_getD d hb
      rw [List.length_drop] at hj
      have := h1 (i + j) (by omega) (by omega)
      rw [← e]
      simpa [List.getD] using this
    · obtain ⟨j, hj, e⟩ := mem_getD d ha
      rw [List.length_take] at hj
      have hx := low j (by omega)
      have ea : a = l.getD j d := by rw [← e]; simp [List.getD, show j < i by omega]
      rw [ea]
      rw [List.singleton_append, List.mem_cons] at hb
      rcases hb with rfl | hb
      · exact hx
      · obtain ⟨k, hk, e'⟩ := mem_getD d hb
        rw [List.length_drop] at hk
        have := h1 (i + k) (by omega) (by omega)
        rw [← e']
        have e2 : (l.drop i).getD k d = l.getD (i + k) d := by simp [List.getD]
        rw [e2]
        exact h.trans _ _ _ hx this
  · rw [insC_mem, List.append_assoc, List.mem_append, List.singleton_append, List.mem_cons]
    have := List.take_append_drop i l
    constructor
    · rintro (hy | rfl | hy)
      · exact .inr (List.mem_of_mem_take hy)
      · exact .inl rfl
      · exact .inr (List.mem_of_mem_drop hy)
    · rintro (rfl | hy)
      · exact .inr (.inl rfl)
      · rw [← this, List.mem_append] at hy
        exact hy.elim .inl fun hy => .inr (.inr hy)
theorem insC_in {l : List α} {x : α} (h : x ∈ l) : insC c l x = l := by unfold insC; rw [if_pos h]
end
end Go.Proofs.YtpanlghofeebhaaGreat
end
section
/- All ideals of a small table: plain. Sets as a word of bits. -/
namespace Go.Proofs.YtpanlghofeebhaaGreat
open Go Go.AM
open Classical
theorem pairwise_adj {l : List Int} (h : Asc l) : l.Pairwise (· < ·) := by
  rw [List.pairwise_iff_getElem]
  have key : ∀ d i, i + d + 1 < l.length → l.getD i 0 < l.getD (i + d + 1) 0 := by
    intro d
    induction d with
    | zero => intro i hi; exact h i hi
    | succ d ih => intro i hi; have h1 := ih i (by omega); have h2 := h (i + d + 1) (by omega); rw [show i + (d + 1) + 1 = i + d + 1 + 1 by omega]; omega
  intro i j hi hj hij
  have := key (j - i - 1) i (by omega)
  rw [show i + (j - i - 1) + 1 = j by omega, getD_eq hi, getD_eq hj] at this
  exact this
theorem asc_of {l : List Int} (h : l.Pairwise (· < ·)) : Asc l := fun i hi => by
  rw [getD_eq (by omega), getD_eq hi]
  exact List.pairwise_iff_getElem.1 h i (i + 1) (by omega) hi (by omega)
theorem asc_ext {l m : List Int} (hl : Asc l) (hm : Asc m) (h : ∀ x, x ∈ l ↔ x ∈ m) : l = m := by
  have c : ∀ a b : Int, cmpI a b < 0 ↔ a < b := fun a b => by unfold cmpI; split <;> (try split) <;> omega
  exact sorted_uniq cmpI_tot ((pairwise_adj hl).imp fun hab => (c _ _).2 hab) ((pairwise_adj hm).imp fun hab => (c _ _).2 hab) h
theorem ascV_asc (n : Nat) (f : Nat → Bool) : Asc (ascV n f) := by
  refine asc_of ?_
  unfold ascV memV memTo
  rw [List.pairwise_map]
  refine List.Pairwise.imp ?_ (List.Pairwise.sublist List.filter_sublist List.pairwise_lt_range)
  intro a b h; exact_mod_cast h
theorem ascV_in {n : Nat} {f : Nat → Bool} {x : Int} (h : x ∈ ascV n f) : 0 ≤ x ∧ x < (n : Int) := by
  obtain ⟨i, h1, _, rfl⟩ := ascV_mem.1 h; omega
theorem ascV_self {n : Nat} {l : List Int} (h : Asc l) (hl : ∀ x ∈ l, 0 ≤ x ∧ x < (n : Int)) : ascV n (setI l) = l := by
  refine asc_ext (ascV_asc _ _) h fun x => ?_
  rw [ascV_mem]
  constructor
  · rintro ⟨i, _, h2, rfl⟩; exact setI_iff.1 h2
  · intro hx
    have := hl x hx
    exact ⟨x.toNat, by omega, setI_iff.2 (by rw [Int.toNat_of_nonneg this.1]; exact hx), by omega⟩
/-! ### The list of all ideals -/
theorem bits_of (f : Nat → Bool) : ∀ n, ∃ m, m < 2 ^ n ∧ ∀ i, i < n → m.testBit i = f i
  | 0 => ⟨0, by simp, fun i hi => absurd hi (Nat.not_lt_zero _)⟩
  | n + 1 => by
    obtain ⟨m, h1, h2⟩ := bits_of f n
    cases hf : f n with
    | false =>
      refine ⟨m, by rw [Nat.pow_succ]; omega, fun i hi => ?_⟩
      by_cases e : i = n
      · subst e; rw [Nat.testBit_lt_two_pow h1, hf]
      · exact h2 i (by omega)
    | true =>
      refine ⟨2 ^ n + m, by rw [Nat.pow_succ]; omega, fun i hi => ?_⟩
      by_cases e : i = n
      · subst e
        rw [Nat.testBit_two_pow_add_eq, Nat.testBit_lt_two_pow h1, hf]; rfl
      · rw [Nat.testBit_two_pow_add_gt (by omega)]; exact h2 i (by omega)
def allSets (n : Nat) : List (List Int) := (List.range (2 ^ n)).map fun m => ascV n m.testBit
theorem allSets_mem {n : Nat} {l : List Int} (h : ascV n (setI l) = l) : l ∈ allSets n := by
  obtain ⟨m, h1, h2⟩ := bits_of (setI l) n
  exact List.mem_map.2 ⟨m, List.mem_range.2 h1, by rw [ascV_congr h2, h]⟩
/-! ### Sets as words -/
end Go.Proofs.YtpanlghofeebhaaGreat
end
section
/- The kernel is the least ideal; the lattice of ideals: plain. -/
namespace Go.Proofs.YtpanlghofeebhaaGreat
open Go Go.AM
theorem ascV_sub {n : Nat} {f g : Nat → Bool} (h : ∀ x, x < n → f x = true → g x = true) : (ascV n f).Sublist (ascV n g) := by
  unfold ascV memV memTo
  rw [setB_len, setB_len]
  refine List.Sublist.map _ ?_
  have e : (List.range n).filter (fun i => (setB n f).getD i false) = ((List.range n).filter (fun i => (setB n g).getD i false)).filter (fun i => (setB n f).getD i false) := by
    rw [List.filter_filter]
    refine List.filter_congr fun x hx => ?_
    have hx := List.mem_range.1 hx
    rw [setB_get hx, setB_get hx]
    cases e : f x
    · rfl
    · rw [h x hx e]; rfl
  rw [e]; exact List.filter_sublist
end Go.Proofs.YtpanlghofeebhaaGreat
end
section
/- The table of a part that is closed: plain. -/
namespace Go.Proofs.YtpanlghofeebhaaGreat
open Go Go.AM
def posTo (l : List Int) : Nat → Nat → Int | 0, _ => -1 | k + 1, x => if l.getD k 0 = (x : Int) then (k : Int) else posTo l k x
theorem posTo_rng (l : List Int) : ∀ k x, -1 ≤ posTo l k x ∧ posTo l k x < k
  | 0, _ => by simp [posTo]
  | k + 1, x => by have := posTo_rng l k x; simp only [posTo]; split <;> omega
theorem posTo_in {l : List Int} {x : Nat} : ∀ {k : Nat}, (∃ j, j < k ∧ l.getD j 0 = (x : Int)) → 0 ≤ posTo l k x ∧ l.getD (posTo l k x).toNat 0 = (x : Int)
  | 0, ⟨j, hj, _⟩ => absurd hj (Nat.not_lt_zero _)
  | k + 1, ⟨j, hj, he⟩ => by
    simp only [posTo]
    by_cases e : l.getD k 0 = (x : Int)
    · rw [if_pos e, Int.toNat_natCast]; exact ⟨by omega, e⟩
    · rw [if_neg e]
      refine posTo_in ⟨j, ?_, he⟩
      rcases Nat.lt_or_ge j k with h | h
      · exact h
      · exact absurd (show l.getD k 0 = (x : Int) by rw [show k = j by omega]; exact he) e
theorem asc_inj {l : List Int} (h : Asc l) {i j : Nat} (hi : i < l.length) (hj : j < l.length) (he : l.getD i 0 = l.getD j 0) : i = j := by
  have hp := List.pairwise_iff_getElem.1 (pairwise_adj h)
  rw [getD_eq hi, getD_eq hj] at he
  rcases Nat.lt_trichotomy i j with h1 | h1 | h1
  · have := hp i j hi hj h1; omega
  · exact h1
  · have := hp j i hj hi h1; omega
structure ClL (t : List (List Int)) (l : List Int) : Prop where
  pos : 0 < l.length
  asc : Asc l
  ins : inT t l
  cl : ∀ x y, x < t.length → y < t.length → setI l x = true → setI l y = true → setI l (en t x y) = true
def eL (l : List Int) (i : Nat) : Nat := (l.getD i 0).toNat
theorem ClL.el {t : List (List Int)} {l : List Int} (h : ClL t l) {i : Nat} (hi : i < l.length) : eL l i < t.length ∧ l.getD i 0 = (eL l i : Int) ∧ setI l (eL l i) = true := by
  have hm := getD_mem (d := 0) hi
  have hr := h.ins _ hm
  unfold eL
  exact ⟨by omega, by omega, setI_iff.2 (by rw [Int.toNat_of_nonneg hr.1]; exact hm)⟩
def pL (l : List Int) (x : Nat) : Nat := (posTo l l.length x).toNat
theorem pL_in {l : List Int} {x : Nat} (h : setI l x = true) : posTo l l.length x = (pL l x : Int) ∧ pL l x < l.length ∧ eL l (pL l x) = x := by
  obtain ⟨j, hj, he⟩ := mem_getD 0 (setI_iff.1 h)
  have h1 := posTo_in (l := l) (x := x) ⟨j, hj, he.symm ▸ rfl⟩
  have h2 := posTo_rng l l.length x
  unfold pL eL
  refine ⟨by omega, by omega, ?_⟩
  rw [h1.2, Int.toNat_natCast]
theorem eL_inj {t : List (List Int)} {l : List Int} (h : ClL t l) {i j : Nat} (hi : i < l.length) (hj : j < l.length) (he : eL l i = eL l j) : i = j :=
  asc_inj h.asc hi hj (by rw [(h.el hi).2.1, (h.el hj).2.1, he])
def subV (t : List (List Int)) (l : List Int) (i j : Nat) : Int := posTo l l.length (en t (eL l i) (eL l j))
def subT (t : List (List Int)) (l : List Int) : List (List Int) := (List.range l.length).map fun i => (List.range l.length).map fun j => subV t l i j
theorem subT_len (t : List (List Int)) (l : List Int) : (subT t l).length = l.length := by simp [subT]
theorem subT_row {t : List (List Int)} {l : List Int} {i : Nat} (hi : i < l.length) : (subT t l).getD i [] = (List.range l.length).map fun j => subV t l i j := map_range_getD _ _ _ _ hi
theorem sub_in {t : List (List Int)} {l : List Int} (h : ClL t l) {i j : Nat} (hi : i < l.length) (hj : j < l.length) : setI l (en t (eL l i) (eL l j)) = true := h.cl _ _ (h.el hi).1 (h.el hj).1 (h.el hi).2.2 (h.el hj).2.2
theorem sub_en {t : List (List Int)} {l : List Int} (h : ClL t l) {i j : Nat} (hi : i < l.length) (hj : j < l.length) : en (subT t l) i j = pL l (en t (eL l i) (eL l j)) ∧ en (subT t l) i j < l.length ∧ eL l (en (subT t l) i j) = en t (eL l i) (eL l j) := by
  have hp := pL_in (sub_in h hi hj)
  have e : en (subT t l) i j = pL l (en t (eL l i) (eL l j)) := by
    unfold en; rw [subT_row hi, map_range_getD _ _ _ _ hj]; rfl
  rw [e]; exact ⟨rfl, hp.2⟩
theorem sub_semi {t : List (List Int)} (ht : Semi t) {l : List Int} (h : ClL t l) (hl : l.length ≤ t.length) : Semi (subT t l) where
  pos := by rw [subT_len]; exact h.pos
  most := by rw [subT_len]; have := ht.most; omega
  row := fun r hr => by
    obtain ⟨i, hi, rfl⟩ := mem_getD [] hr
    rw [subT_len] at hi ⊢
    rw [subT_row hi]
    refine ⟨by simp, fun x hx => ?_⟩
    obtain ⟨k, hk, rfl⟩ := List.mem_map.1 hx
    have := pL_in (sub_in h hi (List.mem_range.1 hk))
    unfold subV; omega
  assoc := fun g hg x y hx hy => by
    rw [subT_len] at hg hx hy
    have a := sub_en h hx hg
    have b := sub_en h hg hy
    have c := sub_en h a.2.1 hy
    have d := sub_en h hx b.2.1
    refine eL_inj h c.2.1 d.2.1 ?_
    rw [c.2.2, d.2.2, a.2.2, b.2.2]
    exact assoc3 ht.assoc (h.el hx).1 (h.el hg).1 (h.el hy).1
end Go.Proofs.YtpanlghofeebhaaGreat
end
section
/- Plain: groups: the identity, inverses, powers and orders of elements. -/
namespace Go.Proofs.YtpanlghofeebhaaGreat
noncomputable def oneN (t : List (List Int)) : Nat := (idV t).toNat
noncomputable def invN (t : List (List Int)) (x : Nat) : Nat := open Classical in if h : ∃ y, y < t.length ∧ Inv t (oneN t) x y then Classical.choose h else 0
noncomputable def invL (t : List (List Int)) : List Int := (List.range t.length).map fun x => ((invN t x : Nat) : Int)
section
variable {t : List (List Int)}
theorem Grp.one (h : Grp t) : oneN t < t.length ∧ Neutral t (oneN t) ∧ idV t = (oneN t : Int) := by
  obtain ⟨e, he, hn, _⟩ := h.inv
  have := id_of he hn
  unfold oneN
  rw [this, Int.toNat_natCast]
  exact ⟨he, hn, rfl⟩
theorem Grp.ninv (h : Grp t) {x : Nat} (hx : x < t.length) : invN t x < t.length ∧ Inv t (oneN t) x (invN t x) := by
  obtain ⟨e, he, hn, hi⟩ := h.inv
  have e1 : oneN t = e := neutral_unique h.one.1 he h.one.2.1 hn
  have hex : ∃ y, y < t.length ∧ Inv t (oneN t) x y := by rw [e1]; exact hi x hx
  unfold invN
  rw [dif_pos hex]
  exact Classical.choose_spec hex
theorem Grp.inv_uniq (h : Grp t) {x y : Nat} (hx : x < t.length) (hy : y < t.length) (hr : en t x y = oneN t) : y = invN t x :=
  inv_right h.toSemi h.one.2.1 hx hy (h.ninv hx).1 (h.ninv hx).2 hr
theorem Grp.cancelR (h : Grp t) {a b c : Nat} (ha : a < t.length) (hb : b < t.length) (hc : c < t.length) (he : en t a c = en t b c) : a = b := by
  have hi := h.ninv hc
  have h1 := assoc3 h.assoc ha hc hi.1
  have h2 := assoc3 h.assoc hb hc hi.1
  rw [he, h2] at h1
  rw [hi.2.1, (h.one.2.1 a ha).2, (h.one.2.1 b hb).2] at h1
  exact h1.symm
theorem Grp.cancelL (h : Grp t) {a b c : Nat} (ha : a < t.length) (hb : b < t.length) (hc : c < t.length) (he : en t c a = en t c b) : a = b := by
  have hi := h.ninv hc
  have h1 := assoc3 h.assoc hi.1 hc ha
  have h2 := assoc3 h.assoc hi.1 hc hb
  rw [← he, ← h1] at h2
  rw [hi.2.2, (h.one.2.1 a ha).1, (h.one.2.1 b hb).1] at h2
  exact h2.symm
theorem invL_len : (invL t).length = t.length := by simp [invL]
theorem invL_get {x : Nat} (hx : x < t.length) : (invL t).getD x 0 = (invN t x : Int) := by simp [invL, List.getD, hx]
def pwN (t : List (List Int)) (x : Nat) : Nat → Nat
  | 0 => x | k + 1 => en t (pwN t x k) x
theorem pwN_lt (h : Semi t) {x : Nat} (hx : x < t.length) : ∀ k, pwN t x k < t.length
  | 0 => hx | k + 1 => (h.toSh.ent (pwN_lt h hx k) hx).2
theorem pwN_add (h : Semi t) {x : Nat} (hx : x < t.length) (i : Nat) : ∀ j, en t (pwN t x i) (pwN t x j) = pwN t x (i + j + 1)
  | 0 => rfl
  | j + 1 => by
    show en t (pwN t x i) (en t (pwN t x j) x) = en t (pwN t x (i + j + 1)) x
    rw [← assoc3 h.assoc (pwN_lt h hx i) (pwN_lt h hx j) hx, pwN_add h hx i j]
theorem pwN_eq (h : Grp t) {x i j : Nat} (hx : x < t.length) (hij : i < j) (he : pwN t x i = pwN t x j) : pwN t x (j - i - 1) = oneN t := by
  have h1 := pwN_add h.toSemi hx (j - i - 1) i
  rw [show j - i - 1 + i + 1 = j by omega, ← he] at h1
  exact h.cancelR (pwN_lt h.toSemi hx _) h.one.1 (pwN_lt h.toSemi hx i) (h1.trans (h.one.2.1 _ (pwN_lt h.toSemi hx i)).1.symm)
theorem ord_ex (h : Grp t) {x : Nat} (hx : x < t.length) : ∃ k, k < t.length ∧ pwN t x k = oneN t := by
  refine Classical.byContradiction fun hno => ?_
  have hne : ∀ k, k < t.length → pwN t x k ≠ oneN t := fun k hk he => hno ⟨k, hk, he⟩
  have hn : ((List.range (t.length + 1)).map (pwN t x)).Nodup := by
    refine List.pairwise_map.2 (List.nodup_range.imp_of_mem fun {a b} ha hb hab e => ?_)
    have ha := List.mem_range.1 ha
    have hb := List.mem_range.1 hb
    rcases Nat.lt_or_ge a b with hlt | hge
    · exact hne _ (by omega) (pwN_eq h hx hlt e)
    · have hab : a ≠ b := hab
      exact hne _ (by omega) (pwN_eq h hx (show b < a by omega) e.symm)
  have := hn.length_le_of_subset (l₂ := List.range t.length) fun y hy => by
    obtain ⟨k, _, rfl⟩ := List.mem_map.1 hy
    exact List.mem_range.2 (pwN_lt h.toSemi hx k)
  simp at this
  omega
theorem least_ex {p : Nat → Prop} : ∀ {n : Nat}, (∃ k, k < n ∧ p k) → ∃ k, k < n ∧ p k ∧ ∀ j, j < k → ¬ p j
  | 0, ⟨_, h, _⟩ => absurd h (Nat.not_lt_zero _)
  | n + 1, ⟨k, h1, h2⟩ => by
    by_cases h : ∃ k, k < n ∧ p k
    · obtain ⟨j, h3, h4, h5⟩ := least_ex h
      exact ⟨j, by omega, h4, h5⟩
    · refine ⟨k, h1, h2, fun j hj hp => h ⟨j, by omega, hp⟩⟩
noncomputable def ordN (t : List (List Int)) (x : Nat) : Nat := open Classical in if h : ∃ k, k < t.length ∧ pwN t x k = oneN t ∧ ∀ j, j < k → pwN t x j ≠ oneN t then Classical.choose h else 0
theorem ord_spec (h : Grp t) {x : Nat} (hx : x < t.length) : ordN t x < t.length ∧ pwN t x (ordN t x) = oneN t ∧ ∀ j, j < ordN t x → pwN t x j ≠ oneN t := by
  have hex : ∃ k, k < t.length ∧ pwN t x k = oneN t ∧ ∀ j, j < k → pwN t x j ≠ oneN t := least_ex (ord_ex h hx)
  unfold ordN
  rw [dif_pos hex]
  exact Classical.choose_spec hex
end
end Go.Proofs.YtpanlghofeebhaaGreat
end
