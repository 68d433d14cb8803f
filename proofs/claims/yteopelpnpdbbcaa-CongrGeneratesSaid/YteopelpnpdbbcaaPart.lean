/- Package partition: its contracts (Valid, canonical, Canonical, matching, Count, Classes, Meet). -/
import Derived.Test.YteopelpnpdbbcaaPartLaw
namespace Go.Proofs.Yteopelpnpdbbcaa
open Go Go.AM
set_option maxRecDepth 100000

theorem firsts_next {p : List Int} {i : Nat} (hi : i < p.length) (hs : ∀ j, j < i → stepOk p j) (h : stepOk p i) : (firsts (p.take (i + 1))).length = if p.getD i 0 = (firsts (p.take i)).length then (firsts (p.take i)).length + 1 else (firsts (p.take i)).length := by
  have hf := firsts_valid (Nat.le_of_lt hi) hs
  have hr := firsts_range hf (p.getD i 0)
  rw [take_get (d := 0) hi, firsts_snoc]
  have h1 := h.1
  have h2 := h.2
  by_cases hm : p.getD i 0 ∈ p.take i
  · rw [if_pos hm, if_neg]
    have := (hr.2 hm).2
    omega
  · rw [if_neg hm, if_pos]
    · simp
    · by_cases hlt : p.getD i 0 < (firsts (p.take i)).length
      · exact absurd (hr.1 ⟨h1, hlt⟩) hm
      · omega

/-- What the numbering's loop keeps. -/
structure CanInv {α : Type} [DecidableEq α] (key : α → List Int) (d : α) (p : List α) (i : Nat) (q : List Int) (m : List (List Int × Int)) : Prop where
  le : i ≤ p.length
  len : q.length = p.length
  map : m = mapOf key 0 (firsts (p.take i))
  val : ∀ j, j < i → q.getD j 0 = (canon p).getD j 0

section
variable {α : Type} [DecidableEq α] {key : α → List Int} {d : α} {p : List α} {i : Nat} {q : List Int} {m : List (List Int × Int)}
theorem CanInv.start : CanInv key d p 0 (List.replicate p.length 0) [] := ⟨Nat.zero_le _, by simp, by simp [firsts, mapOf], fun j hj => absurd hj (Nat.not_lt_zero _)⟩
theorem CanInv.mlen (h : CanInv key d p i q m) : m.length = (firsts (p.take i)).length := by rw [h.map, mapOf_length]
theorem CanInv.mle (h : CanInv key d p i q m) : m.length ≤ p.length := by
  rw [h.mlen]
  have := firsts_le (p.take i)
  rw [List.length_take] at this; omega
theorem CanInv.next (h : CanInv key d p i q m) (hi : i < p.length) {v : Int} {m' : List (List Int × Int)} (hm : m' = mapOf key 0 (firsts (p.take (i + 1)))) (hv : v = (canon p).getD i 0) : CanInv key d p (i + 1) (q.set i v) m' :=
  ⟨by omega, by rw [List.length_set]; exact h.len, hm, fun j hj => by
    by_cases hji : j = i
    · subst hji; rw [getD_set_eq (by rw [h.len]; exact hi), hv]
    · rw [getD_set_ne (Ne.symm hji)]; exact h.val j (by omega)⟩
theorem CanInv.isNew (hk : ∀ a b, key a = key b → a = b) (h : CanInv key d p i q m) (hi : i < p.length) (hn : (!(getM m (key (p.getD i d))).isSome) = true) :
    setM m (key (p.getD i d)) m.length = mapOf key 0 (firsts (p.take (i + 1))) ∧ (m.length : Int) = (canon p).getD i 0 := by
  have hg := getM_mapOf hk (fs := firsts (p.take i)) (n := 0) (x := p.getD i d)
  rw [← h.map] at hg
  have hnone : p.getD i d ∉ p.take i := fun hm => by rw [if_pos (mem_firsts.2 hm)] at hg; rw [hg] at hn; cases hn
  rw [if_neg (fun hm => hnone (mem_firsts.1 hm))] at hg
  have hat := canon_at (d := d) hi
  rw [if_neg hnone] at hat
  refine ⟨?_, by rw [hat, h.mlen]⟩
  rw [setM_new hg, take_get (d := d) hi, firsts_snoc, if_neg hnone, mapOf_snoc, h.map, mapOf_length]
theorem CanInv.isOld (hk : ∀ a b, key a = key b → a = b) (h : CanInv key d p i q m) (hi : i < p.length) (hn : (!(getM m (key (p.getD i d))).isSome) = false) :
    m = mapOf key 0 (firsts (p.take (i + 1))) ∧ (getM m (key (p.getD i d))).getD 0 = (canon p).getD i 0 := by
  have hg := getM_mapOf hk (fs := firsts (p.take i)) (n := 0) (x := p.getD i d)
  rw [← h.map] at hg
  have hin : p.getD i d ∈ p.take i := by
    by_cases hm : p.getD i d ∈ p.take i
    · exact hm
    · rw [if_neg (fun h => hm (mem_firsts.1 h))] at hg; rw [hg] at hn; cases hn
  rw [if_pos (mem_firsts.2 hin)] at hg
  have hat := canon_at (d := d) hi
  rw [if_pos hin] at hat
  refine ⟨by rw [take_get (d := d) hi, firsts_snoc, if_pos hin, h.map], by rw [hg, hat]; simp⟩
theorem CanInv.done (h : CanInv key d p i q m) (hi : p.length ≤ i) : q = canon p := by
  refine List.ext_getElem (by rw [h.len, canon_length]) fun j h1 h2 => ?_
  have := h.val j (by have := h.len; omega)
  rwa [getD_eq h1, getD_eq h2] at this
end

theorem key1 : ∀ a b : Int, [a] = [b] → a = b := fun a b h => by cases h; rfl
end Go.Proofs.Yteopelpnpdbbcaa
