/- The Rees quotient of a table by an ideal: plain. -/
import Derived.Test.YteopelpnpdbbcaaIdealsLaw
namespace Go.Proofs.Yteopelpnpdbbcaa
open Go Go.AM

/-- The elements below k that are not in the ideal. -/
def nonTo (t : List (List Int)) (l : List Int) (k : Nat) : List Int := memTo (setB t.length fun x => !setI l x) k
/-- An element of the table for each element of the quotient. -/
def restTo (t : List (List Int)) (l : List Int) (k : Nat) : List Int := l.getD 0 0 :: nonTo t l k
/-- The element of the quotient for each element. -/
def clsV (t : List (List Int)) (l : List Int) (x : Nat) : Int := if setI l x then 0 else (((nonTo t l x).length + 1 : Nat) : Int)
def clsQ (t : List (List Int)) (l : List Int) : List Int := (List.range t.length).map (clsV t l)
def restQ (t : List (List Int)) (l : List Int) : List Int := restTo t l t.length
def quotV (t : List (List Int)) (l : List Int) (i k : Nat) : Int := clsV t l (en t ((restQ t l).getD i 0).toNat ((restQ t l).getD k 0).toNat)
def quotQ (t : List (List Int)) (l : List Int) : List (List Int) := (List.range (restQ t l).length).map fun i => (List.range (restQ t l).length).map fun k => quotV t l i k

theorem clsQ_len (t : List (List Int)) (l : List Int) : (clsQ t l).length = t.length := by simp [clsQ]
theorem clsQ_get {t : List (List Int)} {l : List Int} {x : Nat} (hx : x < t.length) : (clsQ t l).getD x 0 = clsV t l x := map_range_getD _ _ _ _ hx
theorem quotQ_len (t : List (List Int)) (l : List Int) : (quotQ t l).length = (restQ t l).length := by simp [quotQ]
theorem quotQ_row {t : List (List Int)} {l : List Int} {i : Nat} (hi : i < (restQ t l).length) : (quotQ t l).getD i [] = (List.range (restQ t l).length).map fun k => quotV t l i k := map_range_getD _ _ _ _ hi
theorem nonTo_len (t : List (List Int)) (l : List Int) (k : Nat) : (nonTo t l k).length ≤ k := memTo_len
theorem nonTo_yes {t : List (List Int)} {l : List Int} {k : Nat} (hk : k < t.length) (h : setI l k = false) : nonTo t l (k + 1) = nonTo t l k ++ [(k : Int)] :=
  memTo_yes (by rw [setB_get hk, h]; rfl)
theorem nonTo_no {t : List (List Int)} {l : List Int} {k : Nat} (hk : k < t.length) (h : setI l k = true) : nonTo t l (k + 1) = nonTo t l k :=
  memTo_no (by rw [setB_get hk, h]; rfl)
theorem nonTo_mem {t : List (List Int)} {l : List Int} {k : Nat} (hk : k ≤ t.length) {x : Int} : x ∈ nonTo t l k ↔ ∃ i : Nat, i < k ∧ setI l i = false ∧ x = (i : Int) := by
  unfold nonTo memTo
  simp only [List.mem_map, List.mem_filter, List.mem_range]
  constructor
  · rintro ⟨i, ⟨h1, h2⟩, rfl⟩
    rw [setB_get (by omega)] at h2
    exact ⟨i, h1, by simpa using h2, rfl⟩
  · rintro ⟨i, h1, h2, rfl⟩
    exact ⟨i, ⟨h1, by rw [setB_get (by omega), h2]; rfl⟩, rfl⟩
/-- What stands in the list of the rest. -/
theorem restQ_get {t : List (List Int)} {l : List Int} (hl : IdL t l) {i : Nat} (hi : i < (restQ t l).length) : 0 ≤ (restQ t l).getD i 0 ∧ (restQ t l).getD i 0 < (t.length : Int) ∧ (i = 0 → setI l ((restQ t l).getD i 0).toNat = true) ∧ (0 < i → setI l ((restQ t l).getD i 0).toNat = false) := by
  cases i with
  | zero =>
    have h := hl.2.2.1 _ (getD_mem (d := 0) hl.1)
    have e : (restQ t l).getD 0 0 = l.getD 0 0 := rfl
    rw [e]
    exact ⟨h.1, h.2, fun _ => setI_iff.2 (by rw [Int.toNat_of_nonneg h.1]; exact getD_mem hl.1), fun h => absurd h (Nat.lt_irrefl _)⟩
  | succ i =>
    have hi' : i < (nonTo t l t.length).length := by simpa [restQ, restTo] using hi
    have e : (restQ t l).getD (i + 1) 0 = (nonTo t l t.length).getD i 0 := by simp [restQ, restTo]
    rw [e]
    obtain ⟨k, h1, h2, h3⟩ := (nonTo_mem (Nat.le_refl _)).1 (getD_mem (d := 0) hi')
    rw [h3, Int.toNat_natCast]
    exact ⟨by omega, by omega, fun h => by omega, fun _ => h2⟩
theorem restQ_len (t : List (List Int)) (l : List Int) : (restQ t l).length ≤ t.length + 1 := by
  have := nonTo_len t l t.length
  simp [restQ, restTo]; omega
theorem restQ_pos (t : List (List Int)) (l : List Int) : 0 < (restQ t l).length := by simp [restQ, restTo]
end Go.Proofs.Yteopelpnpdbbcaa
