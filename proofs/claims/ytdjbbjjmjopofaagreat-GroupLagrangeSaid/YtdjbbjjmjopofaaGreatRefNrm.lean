import Derived.Test.YtdjbbjjmjopofaaGreatNrmLaw
import Derived.Test.YtdjbbjjmjopofaaGreatSgpLaw
import Derived.Test.YtdjbbjjmjopofaaGreatRefPart
import Derived.Test.YtdjbbjjmjopofaaGreatIdealLaw
import Derived.Test.YtdjbbjjmjopofaaGreatGroup
import Derived.Test.YtdjbbjjmjopofaaGreatEqvLaw
import Derived.Test.YtdjbbjjmjopofaaGreatGrp
import Derived.Test.YtdjbbjjmjopofaaGreatOrd
import Derived.Test.YtdjbbjjmjopofaaGreatRefRees
/- The reference of all normal subgroups: contract. -/
namespace Go.Proofs.YtdjbbjjmjopofaaGreat
open Go Go.AM
set_option maxRecDepth 100000

/-- The closures of the first k elements. -/
structure OneI (t : List (List Int)) (A : List (List Int)) (k : Nat) : Prop where
  kle : k ≤ t.length
  srt : Srt cmpS A
  mem : ∀ a, a ∈ A ↔ ∃ x, x < k ∧ a = cloL t [(x : Int)]
/-- Within a pass: from A0 on, those before (i, j) joined. -/
structure JnI (t : List (List Int)) (ones A0 : List (List Int)) (i j : Nat) (A : List (List Int)) : Prop where
  srt : Srt cmpS A
  ns : ∀ a ∈ A, NS t a
  sub : ∀ a ∈ A0, a ∈ A
  jn : ∀ a b, (a < i ∨ (a = i ∧ b < j)) → b < ones.length → jnL t (A0.getD a []) (ones.getD b []) ∈ A
section
variable {t : List (List Int)}
theorem one_in {x : Nat} (hx : x < t.length) : inT t [(x : Int)] := fun y hy => by rw [List.mem_singleton] at hy; omega
theorem OneI.ns (h : Grp t) {A : List (List Int)} {k : Nat} (H : OneI t A k) : ∀ a ∈ A, NS t a := fun a ha => by
  obtain ⟨x, hx, rfl⟩ := (H.mem a).1 ha
  exact clo_ns h (one_in (by have := H.kle; omega))
theorem OneI.start : OneI t [] 0 := ⟨Nat.zero_le _, List.Pairwise.nil, fun a => ⟨fun h => (by cases h), fun ⟨x, hx, _⟩ => absurd hx (Nat.not_lt_zero _)⟩⟩
theorem OneI.next {A : List (List Int)} {k : Nat} (H : OneI t A k) (hk : k < t.length) : OneI t (insC cmpS A (cloL t [(k : Int)])) (k + 1) :=
  ⟨hk, insC_srt cmpS_tot H.srt, fun a => by
    rw [insC_mem, H.mem]
    constructor
    · rintro (rfl | ⟨x, hx, rfl⟩)
      · exact ⟨k, by omega, rfl⟩
      · exact ⟨x, by omega, rfl⟩
    · rintro ⟨x, hx, rfl⟩
      by_cases e : x = k
      · rw [e]; exact .inl rfl
      · exact .inr ⟨x, by omega, rfl⟩⟩
theorem JnI.start {ones A0 : List (List Int)} (hs : Srt cmpS A0) (hns : ∀ a ∈ A0, NS t a) : JnI t ones A0 0 0 A0 := ⟨hs, hns, fun _ h => h, fun a b hab => by omega⟩
theorem JnI.next (h : Grp t) {ones A0 A : List (List Int)} {i j : Nat} (H : JnI t ones A0 i j A) (h0 : ∀ a ∈ A0, NS t a) (h1 : ∀ a ∈ ones, NS t a) (hi : i < A0.length) (hj : j < ones.length) : JnI t ones A0 i (j + 1) (insC cmpS A (jnL t (A0.getD i []) (ones.getD j []))) := by
  refine ⟨insC_srt cmpS_tot H.srt, fun a ha => ?_, fun a ha => insC_mem.2 (.inr (H.sub a ha)), fun a b hab hb => ?_⟩
  · rcases insC_mem.1 ha with rfl | ha
    · exact jn_ns h (h0 _ (getD_mem hi)) (h1 _ (getD_mem hj))
    · exact H.ns a ha
  · by_cases e : a = i ∧ b = j
    · rw [e.1, e.2]; exact insC_mem.2 (.inl rfl)
    · exact insC_mem.2 (.inr (H.jn a b (by omega) hb))
theorem JnI.row {ones A0 A : List (List Int)} {i j : Nat} (H : JnI t ones A0 i j A) (hj : ones.length ≤ j) : JnI t ones A0 (i + 1) 0 A :=
  ⟨H.srt, H.ns, H.sub, fun a b hab hb => H.jn a b (by omega) hb⟩
/-- Nothing new: all of them. -/
theorem JnI.done (h : Grp t) {ones A0 A : List (List Int)} {i j k : Nat} (H : JnI t ones A0 i j A) (H1 : OneI t ones k) (hk : t.length ≤ k) (hsub : ∀ a ∈ ones, a ∈ A0) (hs0 : Srt cmpS A0) (hi : A0.length ≤ i) (hlen : A.length = A0.length) : A = nsL t := by
  have hkl := H1.kle
  have hAA : ∀ a, a ∈ A ↔ a ∈ A0 := fun a => by
    have hnd := hs0.nodup cmpS_tot
    refine ⟨fun ha => Classical.byContradiction fun hno => ?_, H.sub a⟩
    have := (List.nodup_cons.2 ⟨hno, hnd⟩ : (a :: A0).Nodup).length_le_of_subset (l₂ := A) fun b hb => (List.mem_cons.1 hb).elim (fun e => e ▸ ha) (H.sub b)
    rw [List.length_cons] at this; omega
  refine sorted_uniq cmpS_tot H.srt (nsL_srt t) fun l => ?_
  rw [nsL_mem]
  refine ⟨H.ns l, ns_all h H.ns ?_ (fun a ha x hx => ?_) l⟩
  · have h1 : cloL t [((oneN t : Nat) : Int)] = [(oneN t : Int)] := asc_mem_ext (clo_ns h (one_in h.one.1)).cl (one_ns h).cl fun x hx => by
      refine ⟨(one_ns h).has_clo h (fun y hy => hy) x hx, fun hm => ?_⟩
      have : x = oneN t := by have := setI_iff.1 hm; rw [List.mem_singleton] at this; omega
      rw [this]; exact (clo_ns h (one_in h.one.1)).cl.one h
    rw [← h1]
    exact H.sub _ (hsub _ ((H1.mem _).2 ⟨oneN t, by have := h.one.1; omega, rfl⟩))
  · obtain ⟨i', hi', rfl⟩ := mem_getD [] ((hAA a).1 ha)
    obtain ⟨j', hj', hv⟩ := mem_getD [] ((H1.mem _).2 ⟨x, by omega, rfl⟩)
    rw [← hv]
    exact H.jn i' j' (by omega) hj'
end

end Go.Proofs.YtdjbbjjmjopofaaGreat
