import Derived.Test.YtdjbbjjmjopofaaGreatOrd
import Derived.Test.YtdjbbjjmjopofaaGreatRefRees
import Derived.Test.YtdjbbjjmjopofaaGreatIdealsLaw
import Derived.Test.YtdjbbjjmjopofaaGreatIdealLaw
import Derived.Test.YtdjbbjjmjopofaaGreatMult
/- Package ideal: all ideals: marks, principals, their unions. -/
namespace Go.Proofs.YtdjbbjjmjopofaaGreat
open Go Go.AM
set_option maxRecDepth 100000
/-- The first k principal ideals, each once. -/
def baseTo (t : List (List Int)) (k : Nat) : List (List Int) := firsts ((List.range k).map (prL t))
theorem baseTo_mem {t : List (List Int)} {k : Nat} {s : List Int} : s ∈ baseTo t k ↔ ∃ x, x < k ∧ prL t x = s := by
  unfold baseTo
  rw [mem_firsts, List.mem_map]
  exact ⟨fun ⟨x, hx, e⟩ => ⟨x, List.mem_range.1 hx, e⟩, fun ⟨x, hx, e⟩ => ⟨x, List.mem_range.2 hx, e⟩⟩
theorem baseTo_id {t : List (List Int)} (h : Semi t) {k : Nat} (hk : k ≤ t.length) {s : List Int} (hs : s ∈ baseTo t k) : IdL t s := by
  obtain ⟨x, hx, rfl⟩ := baseTo_mem.1 hs
  exact prL_id h (by omega)
/-- What the search for unions keeps. -/
structure GenInv (t : List (List Int)) (F : List (List Int)) (i k : Nat) : Prop where
  nodup : F.Nodup
  ids : ∀ s ∈ F, IdL t s
  base : ∀ s ∈ baseTo t t.length, s ∈ F
  ile : i ≤ F.length
  done : ∀ i', i' < i → ∀ m ∈ baseTo t t.length, unL t.length (F.getD i' []) m ∈ F
  part : ∀ k', k' < k → i < F.length → unL t.length (F.getD i []) ((baseTo t t.length).getD k' []) ∈ F
  kle : k ≤ (baseTo t t.length).length
theorem GenInv.start {t : List (List Int)} (h : Semi t) : GenInv t (baseTo t t.length) 0 0 :=
  ⟨firsts_nodup _, fun s hs => baseTo_id h (Nat.le_refl _) hs, fun _ hs => hs, Nat.zero_le _, fun i hi => absurd hi (Nat.not_lt_zero _), fun k hk => absurd hk (Nat.not_lt_zero _), Nat.zero_le _⟩
theorem GenInv.len {t : List (List Int)} {F : List (List Int)} {i k : Nat} (H : GenInv t F i k) (hn : t.length ≤ 9) : F.length ≤ 512 := ids_le H.nodup H.ids hn
theorem GenInv.self {t : List (List Int)} {F : List (List Int)} {i k : Nat} (H : GenInv t F i k) : ∀ s ∈ F, ascV t.length (setI s) = s := fun s hs => (H.ids s hs).self
theorem GenInv.un {t : List (List Int)} {F : List (List Int)} {i k : Nat} (H : GenInv t F i k) (h : Semi t) (hi : i < F.length) (hk : k < (baseTo t t.length).length) : IdL t (unL t.length (F.getD i []) ((baseTo t t.length).getD k [])) :=
  unL_id h.toSh (H.ids _ (getD_mem hi)) (baseTo_id h (Nat.le_refl _) (getD_mem hk))
theorem GenInv.old {t : List (List Int)} {F : List (List Int)} {i k : Nat} (H : GenInv t F i k) (hk : k < (baseTo t t.length).length) (hm : unL t.length (F.getD i []) ((baseTo t t.length).getD k []) ∈ F) : GenInv t F i (k + 1) :=
  ⟨H.nodup, H.ids, H.base, H.ile, H.done, fun k' hk' hi' => by
    by_cases e : k' = k
    · rw [e]; exact hm
    · exact H.part k' (by omega) hi', hk⟩
theorem GenInv.new {t : List (List Int)} {F : List (List Int)} {i k : Nat} (H : GenInv t F i k) (h : Semi t) (hi : i < F.length) (hk : k < (baseTo t t.length).length) (hm : unL t.length (F.getD i []) ((baseTo t t.length).getD k []) ∉ F) :
    GenInv t (F ++ [unL t.length (F.getD i []) ((baseTo t t.length).getD k [])]) i (k + 1) := by
  have eg : ∀ j, j < F.length → (F ++ [unL t.length (F.getD i []) ((baseTo t t.length).getD k [])]).getD j [] = F.getD j [] := fun j hj => by
    rw [getD_eq (by simp; omega), getD_eq hj, List.getElem_append_left]
  refine ⟨List.nodup_append.2 ⟨H.nodup, by simp, fun a ha b hb => ?_⟩, fun s hs => ?_, fun s hs => List.mem_append.2 (.inl (H.base s hs)), by simp; omega, fun i' hi' m hm' => ?_, fun k' hk' _ => ?_, hk⟩
  · rw [List.mem_singleton] at hb
    intro e; rw [← e] at hb; exact hm (by rw [← hb]; exact ha)
  · rcases List.mem_append.1 hs with hs | hs
    · exact H.ids s hs
    · rw [List.mem_singleton] at hs; rw [hs]; exact H.un h hi hk
  · rw [eg i' (by omega)]; exact List.mem_append.2 (.inl (H.done i' hi' m hm'))
  · rw [eg i hi]
    by_cases e : k' = k
    · rw [e]; exact List.mem_append.2 (.inr (by simp))
    · exact List.mem_append.2 (.inl (H.part k' (by omega) hi))
theorem GenInv.next {t : List (List Int)} {F : List (List Int)} {i k : Nat} (H : GenInv t F i k) (hi : i < F.length) (hk : (baseTo t t.length).length ≤ k) : GenInv t F (i + 1) 0 :=
  ⟨H.nodup, H.ids, H.base, hi, fun i' hi' m hm => by
    by_cases e : i' = i
    · subst e
      obtain ⟨k', hk', rfl⟩ := mem_getD [] hm
      exact H.part k' (by omega) hi
    · exact H.done i' (by omega) m hm, fun k hk => absurd hk (Nat.not_lt_zero _), Nat.zero_le _⟩
theorem GenInv.all {t : List (List Int)} {F : List (List Int)} {i : Nat} (H : GenInv t F i 0) (h : Semi t) (hi : F.length ≤ i) : srt cmpS F = idsL t := by
  refine idsL_of H.nodup fun l => ⟨H.ids l, all_of_closed h (fun x hx => H.base _ (baseTo_mem.2 ⟨x, hx, rfl⟩)) (fun a ha x hx => ?_) l⟩
  obtain ⟨i', hi', rfl⟩ := mem_getD [] ha
  exact H.done i' (by omega) _ (baseTo_mem.2 ⟨x, hx, rfl⟩)
end Go.Proofs.YtdjbbjjmjopofaaGreat
