/- Orders by a comparison; sorted lists; the lexicographic order and the order by size. Plain. -/
import Derived.Test.YtdjbbjjmjopofaaGreatBase
namespace Go.Proofs.YtdjbbjjmjopofaaGreat
open Go Go.AM

/-- A comparison that tells a strict total order. -/
structure TotC {α : Type} (c : α → α → Int) : Prop where
  swap : ∀ a b, c b a = - c a b
  eq : ∀ a b, c a b = 0 → a = b
  trans : ∀ a b d, c a b < 0 → c b d < 0 → c a d < 0

theorem TotC.self {α : Type} {c : α → α → Int} (h : TotC c) (a : α) : c a a = 0 := by have := h.swap a a; omega

def cmpI (a b : Int) : Int := if a < b then -1 else if b < a then 1 else 0
theorem cmpI_tot : TotC cmpI where
  swap a b := by unfold cmpI; split <;> split <;> (try split) <;> omega
  eq a b := by unfold cmpI; split <;> (try split) <;> omega
  trans a b d := by unfold cmpI; intro h1 h2; split at h1 <;> (try split at h1) <;> split at h2 <;> (try split at h2) <;> first | omega | (rw [if_pos (by omega)]; omega)

/-- Lexicographic, a list ahead of those that go on from it. -/
def cmpL : List Int → List Int → Int
  | [], [] => 0 | [], _ :: _ => -1 | _ :: _, [] => 1 | a :: l, b :: m => if cmpI a b ≠ 0 then cmpI a b else cmpL l m

theorem cmpL_swap : ∀ a b : List Int, cmpL b a = - cmpL a b
  | [], [] => rfl
  | [], _ :: _ => rfl
  | _ :: _, [] => rfl
  | a :: l, b :: m => by
    have e := cmpI_tot.swap a b
    have ih := cmpL_swap l m
    simp only [cmpL]
    by_cases h : cmpI a b = 0
    · rw [if_neg (by omega), if_neg (by omega), ih]
    · rw [if_pos (by omega), if_pos h, e]
theorem cmpL_eq : ∀ a b : List Int, cmpL a b = 0 → a = b
  | [], [], _ => rfl
  | [], _ :: _, h => by simp [cmpL] at h
  | _ :: _, [], h => by simp [cmpL] at h
  | a :: l, b :: m, h => by
    simp only [cmpL] at h
    by_cases h0 : cmpI a b = 0
    · rw [if_neg (by omega)] at h
      rw [cmpI_tot.eq a b h0, cmpL_eq l m h]
    · rw [if_pos h0] at h; exact absurd h h0
theorem cmpL_trans : ∀ a b d : List Int, cmpL a b < 0 → cmpL b d < 0 → cmpL a d < 0
  | [], [], _, h, _ => by simp [cmpL] at h
  | [], _ :: _, [], _, h => by simp [cmpL] at h
  | [], _ :: _, _ :: _, _, _ => by simp [cmpL]
  | _ :: _, [], _, h, _ => by simp [cmpL] at h
  | _ :: _, _ :: _, [], _, h => by simp [cmpL] at h
  | a :: l, b :: m, d :: n, h1, h2 => by
    simp only [cmpL] at h1 h2 ⊢
    have ih := cmpL_trans l m n
    by_cases e1 : cmpI a b = 0
    · rw [if_neg (by omega)] at h1
      obtain rfl := cmpI_tot.eq a b e1
      by_cases e2 : cmpI a d = 0
      · rw [if_neg (by omega)] at h2 ⊢; exact ih h1 h2
      · rw [if_pos e2] at h2 ⊢; exact h2
    · rw [if_pos e1] at h1
      by_cases e2 : cmpI b d = 0
      · obtain rfl := cmpI_tot.eq b d e2
        rw [if_pos e1]; exact h1
      · rw [if_pos e2] at h2
        have := cmpI_tot.trans a b d h1 h2
        rw [if_pos (by omega)]; exact this
/-- By the number of elements, then lexicographic. -/
def cmpS (a b : List Int) : Int := if cmpI a.length b.length ≠ 0 then cmpI a.length b.length else cmpL a b
theorem cmpS_tot : TotC cmpS where
  swap a b := by
    have e := cmpI_tot.swap a.length b.length
    unfold cmpS
    by_cases h : cmpI (a.length : Int) b.length = 0
    · rw [if_neg (by omega), if_neg (by omega)]; exact cmpL_swap a b
    · rw [if_pos (by omega), if_pos h]; exact e
  eq a b h := by
    unfold cmpS at h
    by_cases h0 : cmpI (a.length : Int) b.length = 0
    · rw [if_neg (by omega)] at h; exact cmpL_eq a b h
    · rw [if_pos h0] at h; exact absurd h h0
  trans a b d h1 h2 := by
    unfold cmpS at *
    by_cases e1 : cmpI (a.length : Int) b.length = 0
    · rw [if_neg (by omega)] at h1
      have e1' := cmpI_tot.eq _ _ e1
      rw [e1']
      by_cases e2 : cmpI (b.length : Int) d.length = 0
      · rw [if_neg (by omega)] at h2 ⊢; exact cmpL_trans a b d h1 h2
      · rw [if_pos e2] at h2 ⊢; exact h2
    · rw [if_pos e1] at h1
      by_cases e2 : cmpI (b.length : Int) d.length = 0
      · have e2' := cmpI_tot.eq _ _ e2
        rw [← e2', if_pos e1]; exact h1
      · rw [if_pos e2] at h2
        have := cmpI_tot.trans _ _ _ h1 h2
        rw [if_pos (by omega)]; exact this

/-- Strictly ascending by a comparison. -/
def Srt {α : Type} (c : α → α → Int) (l : List α) : Prop := l.Pairwise fun a b => c a b < 0
/-- The list in its order. -/
def srt {α : Type} (c : α → α → Int) (l : List α) : List α := l.mergeSort fun a b => decide (c a b ≤ 0)

section
variable {α : Type} {c : α → α → Int}
theorem Srt.nodup (h : TotC c) {l : List α} (hs : Srt c l) : l.Nodup := hs.imp fun {a b} hab e => by subst e; have := h.self a; omega

theorem le_trans' (h : TotC c) {a b d : α} (h1 : c a b ≤ 0) (h2 : c b d ≤ 0) : c a d ≤ 0 := by
  by_cases e1 : c a b = 0
  · obtain rfl := h.eq _ _ e1; exact h2
  · by_cases e2 : c b d = 0
    · obtain rfl := h.eq _ _ e2; exact h1
    · have := h.trans a b d (by omega) (by omega); omega

theorem srt_perm (l : List α) : (srt c l).Perm l := List.mergeSort_perm _ _
theorem srt_mem {l : List α} {x : α} : x ∈ srt c l ↔ x ∈ l := (srt_perm l).mem_iff
theorem srt_le (h : TotC c) (l : List α) : (srt c l).Pairwise fun a b => c a b ≤ 0 := by
  have := List.pairwise_mergeSort (le := fun a b => decide (c a b ≤ 0)) (fun a b d h1 h2 => decide_eq_true (le_trans' h (of_decide_eq_true h1) (of_decide_eq_true h2)))
    (fun a b => by
      have := h.swap a b
      by_cases h0 : c a b ≤ 0
      · simp [h0]
      · have : c b a ≤ 0 := by omega
        simp [this]) l
  exact this.imp fun {a b} hab => of_decide_eq_true hab
theorem srt_srt (h : TotC c) {l : List α} (hn : l.Nodup) : Srt c (srt c l) := by
  have h1 := srt_le h l
  have h2 : (srt c l).Nodup := (srt_perm l).nodup_iff.2 hn
  have := h1.and h2
  refine this.imp fun {a b} hab => ?_
  have : c a b ≠ 0 := fun e => hab.2 (h.eq _ _ e)
  omega

/-- What ascends is told by its members, with their numbers. -/
theorem perm_sorted (h : TotC c) : ∀ {l m : List α}, l.Pairwise (fun a b => c a b ≤ 0) → m.Pairwise (fun a b => c a b ≤ 0) → l.Perm m → l = m
  | [], m, _, _, hp => by rw [List.nil_perm.1 hp]
  | a :: l, [], _, _, hp => by have := hp.length_eq; simp at this
  | a :: l, b :: m, h1, h2, hp => by
    have h1' := List.pairwise_cons.1 h1
    have h2' := List.pairwise_cons.1 h2
    have e : a = b := by
      have ha : a ∈ b :: m := hp.mem_iff.1 (by simp)
      have hb : b ∈ a :: l := hp.mem_iff.2 (by simp)
      rcases List.mem_cons.1 ha with e | ha
      · exact e
      · rcases List.mem_cons.1 hb with e | hb
        · exact e.symm
        · have g1 := h2'.1 a ha
          have g2 := h1'.1 b hb
          have := h.swap a b
          exact h.eq _ _ (by omega)
    subst e
    rw [perm_sorted h h1'.2 h2'.2 hp.cons_inv]
theorem sorted_uniq (h : TotC c) {l m : List α} (hl : Srt c l) (hm : Srt c m) (he : ∀ x, x ∈ l ↔ x ∈ m) : l = m :=
  perm_sorted h (hl.imp fun h => by omega) (hm.imp fun h => by omega) ((List.perm_ext_iff_of_nodup (hl.nodup h) (hm.nodup h)).2 he)
theorem srt_of (h : TotC c) {l m : List α} (hl : l.Nodup) (hm : Srt c m) (he : ∀ x, x ∈ l ↔ x ∈ m) : srt c l = m :=
  sorted_uniq h (srt_srt h hl) hm fun x => by rw [srt_mem, he x]
end

/-- A list that ascends, with one more. -/
noncomputable def insC {α : Type} (c : α → α → Int) (l : List α) (x : α) : List α := open Classical in if x ∈ l then l else srt c (x :: l)
section
variable {α : Type} {c : α → α → Int}
theorem insC_mem {l : List α} {x y : α} : y ∈ insC c l x ↔ y = x ∨ y ∈ l := by
  unfold insC
  split
  · rename_i h; exact ⟨.inr, fun h' => h'.elim (fun e => by rw [e]; exact h) id⟩
  · rw [srt_mem, List.mem_cons]
theorem insC_srt (h : TotC c) {l : List α} {x : α} (hl : Srt c l) : Srt c (insC c l x) := by
  unfold insC
  split
  · exact hl
  · rename_i hx; exact srt_srt h (List.nodup_cons.2 ⟨hx, hl.nodup h⟩)
end
end Go.Proofs.YtdjbbjjmjopofaaGreat
